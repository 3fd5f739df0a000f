/- The reference's Same, at like values. -/
import Derived.Test.YtggkidnlmaindaaDoorPathS
set_option linter.unusedSimpArgs false
set_option linter.unusedVariables false
namespace Go.Proofs.YtggkidnlmaindaaDoor
open Go.RowKit
set_option linter.unusedVariables false

theorem blk_pair (w : World) (T : TypeId) (a b : Array Value) : Blk ((w.alloc (.cells a T)).alloc (.cells b T)) w.heap.size T a ∧ Blk ((w.alloc (.cells a T)).alloc (.cells b T)) (w.heap.size + 1) T b ∧ Ext w ((w.alloc (.cells a T)).alloc (.cells b T)) := by
  have := Blk.new (w.alloc (.cells a T)) T b
  rw [World.size_alloc] at this
  exact ⟨(Blk.new _ _ _).alloc _, this, ((Keep.refl _ _).alloc _).alloc _⟩
set_option maxHeartbeats 6400000 in
theorem same_eq : ∀ (m : Nat) (x : V), x.size ≤ m → ∀ (u v : Value) (S1 S2 : BS) (w : World), VAt w S1 u x → VAt w S2 v x →
    Calls Tryd.prog 16 #[u, v] w fun e w' => e = .returned (.bool true) ∧ Ext w w' := by
  intro m
  induction m with
  | zero => intro x h; have := x.size_pos; omega
  | succ m ih =>
  intro x hsz u v S1 S2 w hu hv
  have hlen := V.size_eq x
  have HIH := hid ih
  have HLM := hid (fun (y : V) (hy : y ∈ x.l) => (by have := V.sizes_mem hy; omega : y.size ≤ m))
  have HOM := hid (fun (y : F) (hy : y ∈ x.o) => (by have := F.sizes_mem hy; omega : y.v.size ≤ m))
  clear ih hlen hsz
  obtain ⟨l1, o1, rfl, h1, h2⟩ := hu
  obtain ⟨l2, o2, rfl, h3, h4⟩ := hv
  obtain ⟨A1, c1, rfl, hc1, hm1⟩ := h1.shape
  obtain ⟨A2, c2, rfl, hc2, hm2⟩ := h2.shape
  obtain ⟨A3, c3, rfl, _, _⟩ := h3.shape
  obtain ⟨A4, c4, rfl, _, _⟩ := h4.shape
  unfold maxLen at hm1 hm2
  generalize x.kind = k at *
  generalize x.n = n at *
  generalize x.s = s at *
  generalize x.l = xs at *
  generalize x.o = xo at *
  have H1 := hid h1
  have H2 := hid h2
  have H3 := hid h3
  have H4 := hid h4
  obtain ⟨hb0, hb1, hE⟩ := blk_pair w TVAL #[U8 k, .int .i64 n, .string s, .slice A1 xs.length c1, .slice A2 xo.length c2] #[U8 k, .int .i64 n, .string s, .slice A3 xs.length c3, .slice A4 xo.length c4]
  have HB0 := hid hb0
  have HB1 := hid hb1
  have HE := hid hE
  clear h1 h2 h3 h4 hb0 hb1 hE
  have e1 : ((k.toNat : Int) == k.toNat) = true := by simp
  have e2 : (n == n) = true := by simp
  have e4 : ((xs.length : Int) == xs.length) = true := by simp
  have e5 : ((xo.length : Int) == xo.length) = true := by simp
  go_enter Tryd.func16, Tryd.ntmps16
  go_wp2_with fail
  generalize ((w.alloc (.cells #[U8 k, .int .i64 n, .string s, .slice A1 xs.length c1, .slice A2 xo.length c2] TVAL)).alloc (.cells #[U8 k, .int .i64 n, .string s, .slice A3 xs.length c3, .slice A4 xo.length c4] TVAL)) = w0 at *
  go_loopw [5] (fun y wr => ∃ (j : Nat), j ≤ xs.length ∧ y = .int .i64 j ∧ Ext w0 wr) (fun y _ => xs.length - (intOf y).toNat)
  case atStart => exact ⟨0, by omega, rfl, Keep.refl _ _⟩
  case round =>
    obtain ⟨j, hj, rfl, hr⟩ := hrel
    have hx := HB0.out.keep hr id
    have hy := HB1.out.keep hr id
    have x3 : wr.cell? ⟨w.heap.size, 3, none⟩ = some (.slice A1 xs.length c1) := hx.cell 3
    have x4 : wr.cell? ⟨w.heap.size, 4, none⟩ = some (.slice A2 xo.length c2) := hx.cell 4
    have y3 : wr.cell? ⟨w.heap.size + 1, 3, none⟩ = some (.slice A3 xs.length c3) := hy.cell 3
    have y4 : wr.cell? ⟨w.heap.size + 1, 4, none⟩ = some (.slice A4 xo.length c4) := hy.cell 4
    have HR := hid (HE.out.ext hr)
    have HR0 := hid hr
    clear hx hy hr
    by_cases hlt : j < xs.length
    · obtain ⟨b1, f1, d1, rfl, hb1, hs1, hr1, hc1'⟩ := (H1.out.ext EVal.ok HR.out).at_ EVal.ok hlt
      obtain ⟨b2, f2, d2, rfl, hb2, hs2, hr2, hc2'⟩ := (H3.out.ext EVal.ok HR.out).at_ EVal.ok hlt
      obtain ⟨B1, n1, z1, B2, n2, z2, rfl, _, _, hva⟩ := EVal_cells hr1
      obtain ⟨B3, n3, z3, B4, n4, z4, rfl, _, _, hvb⟩ := EVal_cells hr2
      have p0 := hc1' 0 _ rfl
      have p1 := hc1' 1 _ rfl
      have p2 := hc1' 2 _ rfl
      have p3 := hc1' 3 _ rfl
      have p4 := hc1' 4 _ rfl
      have q0 := hc2' 0 _ rfl
      have q1 := hc2' 1 _ rfl
      have q2 := hc2' 2 _ rfl
      have q3 := hc2' 3 _ rfl
      have q4 := hc2' 4 _ rfl
      have e5' : EVal.size = 5 := rfl
      simp only [e5', Nat.add_zero] at p0 p1 p2 p3 p4 q0 q1 q2 q3 q4
      have HVA := hid hva
      have HVB := hid hvb
      have HXM := hid (HLM.out xs[j] (List.getElem_mem hlt))
      have hjX : (j : Int) < xs.length := by omega
      clear hc1' hc2' hr1 hr2 hva hvb e5' hs1 hs2 hb1 hb2
      generalize xs[j] = y at *
      go_wp2_with fail
      refine wp_region_grow (specOf [(10, fun v _ => v = .bool true)]) (fun w' => Ext wr w') ?_ (stableC_ext _) (by kernel_rfl) (by kernel_rfl) (Keep.drew (Keep.refl _ _)) ?_
      · exact stable_cons (fun v w w' h he => h) stable_nil
      iterate 10
        (try simp only [Act.put, List.setIfInBounds_toArray, List.set_cons_zero, List.set_cons_succ])
        refine grow_run rfl rfl rfl ?_
        apply Exists.intro
        refine ⟨fun w' hC hK => ?_, ?_⟩
        · have x3 := (hC.cell (lt_of_cell x3) id).trans x3
          have y3 := (hC.cell (lt_of_cell y3) id).trans y3
          have p0 := (hC.cell (lt_of_cell p0) id).trans p0
          have p1 := (hC.cell (lt_of_cell p1) id).trans p1
          have p2 := (hC.cell (lt_of_cell p2) id).trans p2
          have p3 := (hC.cell (lt_of_cell p3) id).trans p3
          have p4 := (hC.cell (lt_of_cell p4) id).trans p4
          have q0 := (hC.cell (lt_of_cell q0) id).trans q0
          have q1 := (hC.cell (lt_of_cell q1) id).trans q1
          have q2 := (hC.cell (lt_of_cell q2) id).trans q2
          have q3 := (hC.cell (lt_of_cell q3) id).trans q3
          have q4 := (hC.cell (lt_of_cell q4) id).trans q4
          go_simp
          rfl
      (try simp only [Act.put, List.setIfInBounds_toArray, List.set_cons_zero, List.set_cons_succ])
      refine grow_eff rfl rfl rfl (fun w' hC hK => ?_) (fun v10 hv10 => ?_)
      · unfold growAt
        go_simp
        refine grow_call ((HIH.out y HXM.out _ _ _ _ w' (HVA.out.ext hC) (HVB.out.ext hC)).mono ?_)
        rintro e w'' ⟨rfl, h1⟩
        exact ⟨_, rfl, h1, rfl⟩
      obtain ⟨_, _, rfl⟩ := hv10.head
      iterate 1
        (try simp only [Act.put, List.setIfInBounds_toArray, List.set_cons_zero, List.set_cons_succ])
        refine grow_run rfl rfl rfl ?_
        apply Exists.intro
        refine ⟨fun w' hC hK => ?_, ?_⟩
        · go_simp
          rfl
      refine grow_nil fun w4 hC _ => ?_
      have HC4 := hid (HR0.out.ext (show Ext wr w4 from hC))
      clear hC hv10 x3 x4 y3 y4 p0 p1 p2 p3 p4 q0 q1 q2 q3 q4 HVA HVB
      go_wp2
      exact ⟨⟨j + 1, by omega, by go_num, HC4.out⟩, by simp [intOf]; omega⟩
    · obtain rfl : j = xs.length := by omega
      go_wp2_with fail
      clear x3 x4 y3 y4
      go_loopw [7] (fun y wr => ∃ (j : Nat), j ≤ xo.length ∧ y = .int .i64 j ∧ Ext w0 wr) (fun y _ => xo.length - (intOf y).toNat)
      case atStart => exact ⟨0, by omega, rfl, HR0.out⟩
      case round =>
        clear HR HR0
        obtain ⟨j, hj, rfl, hr⟩ := hrel
        have hx := HB0.out.keep hr id
        have hy := HB1.out.keep hr id
        have x4 : wr.cell? ⟨w.heap.size, 4, none⟩ = some (.slice A2 xo.length c2) := hx.cell 4
        have y4 : wr.cell? ⟨w.heap.size + 1, 4, none⟩ = some (.slice A4 xo.length c4) := hy.cell 4
        have HR := hid (HE.out.ext hr)
        have HR0 := hid hr
        clear hx hy hr
        by_cases hlt : j < xo.length
        · obtain ⟨b1, f1, d1, rfl, hb1, hs1, hr1, hc1'⟩ := (H2.out.ext EField.ok HR.out).at_ EField.ok hlt
          obtain ⟨b2, f2, d2, rfl, hb2, hs2, hr2, hc2'⟩ := (H4.out.ext EField.ok HR.out).at_ EField.ok hlt
          obtain ⟨lv1, ov1, rfl, ⟨D1, g1, rfl⟩, ⟨D2, g2, rfl⟩, hva⟩ := EField_cells hr1
          obtain ⟨lv2, ov2, rfl, ⟨D3, g3, rfl⟩, ⟨D4, g4, rfl⟩, hvb⟩ := EField_cells hr2
          have p0 := hc1' 0 _ rfl
          have p1 := hc1' 1 _ rfl
          have p2 := hc1' 2 _ rfl
          have p3 := hc1' 3 _ rfl
          have p4 := hc1' 4 _ rfl
          have p5 := hc1' 5 _ rfl
          have q0 := hc2' 0 _ rfl
          have q1 := hc2' 1 _ rfl
          have q2 := hc2' 2 _ rfl
          have q3 := hc2' 3 _ rfl
          have q4 := hc2' 4 _ rfl
          have q5 := hc2' 5 _ rfl
          have e5' : EField.size = 6 := rfl
          simp only [e5', Nat.add_zero] at p0 p1 p2 p3 p4 p5 q0 q1 q2 q3 q4 q5
          have HVA := hid hva
          have HVB := hid hvb
          have HXM := hid (HOM.out xo[j] (List.getElem_mem hlt))
          have hjX : (j : Int) < xo.length := by omega
          clear hc1' hc2' hr1 hr2 hva hvb e5' hs1 hs2 hb1 hb2
          generalize xo[j] = y at *
          go_wp2_with fail
          refine wp_region_grow (specOf [(12, fun v _ => v = .bool true)]) (fun w' => Ext wr w') ?_ (stableC_ext _) (by kernel_rfl) (by kernel_rfl) (Keep.drew (Keep.refl _ _)) ?_
          · exact stable_cons (fun v w w' h he => h) stable_nil
          iterate 12
            (try simp only [Act.put, List.setIfInBounds_toArray, List.set_cons_zero, List.set_cons_succ])
            refine grow_run rfl rfl rfl ?_
            apply Exists.intro
            refine ⟨fun w' hC hK => ?_, ?_⟩
            · have x4 := (hC.cell (lt_of_cell x4) id).trans x4
              have y4 := (hC.cell (lt_of_cell y4) id).trans y4
              have p1 := (hC.cell (lt_of_cell p1) id).trans p1
              have p2 := (hC.cell (lt_of_cell p2) id).trans p2
              have p3 := (hC.cell (lt_of_cell p3) id).trans p3
              have p4 := (hC.cell (lt_of_cell p4) id).trans p4
              have p5 := (hC.cell (lt_of_cell p5) id).trans p5
              have q1 := (hC.cell (lt_of_cell q1) id).trans q1
              have q2 := (hC.cell (lt_of_cell q2) id).trans q2
              have q3 := (hC.cell (lt_of_cell q3) id).trans q3
              have q4 := (hC.cell (lt_of_cell q4) id).trans q4
              have q5 := (hC.cell (lt_of_cell q5) id).trans q5
              go_simp
              rfl
          (try simp only [Act.put, List.setIfInBounds_toArray, List.set_cons_zero, List.set_cons_succ])
          refine grow_eff rfl rfl rfl (fun w' hC hK => ?_) (fun v10 hv10 => ?_)
          · unfold growAt
            go_simp
            refine grow_call ((HIH.out y.v HXM.out _ _ _ _ w' (HVA.out.ext hC) (HVB.out.ext hC)).mono ?_)
            rintro e w'' ⟨rfl, h1⟩
            exact ⟨_, rfl, h1, rfl⟩
          obtain ⟨_, _, rfl⟩ := hv10.head
          iterate 1
            (try simp only [Act.put, List.setIfInBounds_toArray, List.set_cons_zero, List.set_cons_succ])
            refine grow_run rfl rfl rfl ?_
            apply Exists.intro
            refine ⟨fun w' hC hK => ?_, ?_⟩
            · go_simp
              rfl
          refine grow_nil fun w4 hC _ => ?_
          have hC : Ext wr w4 := hC
          have HC4 := hid (HR0.out.ext hC)
          replace x4 := (hC.cell (lt_of_cell x4) id).trans x4
          replace y4 := (hC.cell (lt_of_cell y4) id).trans y4
          replace p0 := (hC.cell (lt_of_cell p0) id).trans p0
          replace q0 := (hC.cell (lt_of_cell q0) id).trans q0
          clear hC hv10 p1 p2 p3 p4 p5 q1 q2 q3 q4 q5 HVA HVB
          go_wp2_with fail
          refine wp_region_grow (specOf []) (fun w' => Ext w4 w') stable_nil (stableC_ext _) (by kernel_rfl) (by kernel_rfl) (Keep.drew (Keep.refl _ _)) ?_
          iterate 17
            (try simp only [Act.put, List.setIfInBounds_toArray, List.set_cons_zero, List.set_cons_succ])
            refine grow_run rfl rfl rfl ?_
            apply Exists.intro
            refine ⟨fun w' hC hK => ?_, ?_⟩
            · have x4 := (hC.cell (lt_of_cell x4) id).trans x4
              have y4 := (hC.cell (lt_of_cell y4) id).trans y4
              have p0 := (hC.cell (lt_of_cell p0) id).trans p0
              have q0 := (hC.cell (lt_of_cell q0) id).trans q0
              go_simp
              rfl
          refine grow_nil fun w5 hC _ => ?_
          have HC5 := hid (HC4.out.ext (show Ext w4 w5 from hC))
          clear hC x4 y4 p0 q0
          go_wp2
          exact ⟨⟨j + 1, by omega, by go_num, HC5.out⟩, by simp [intOf]; omega⟩
        · obtain rfl : j = xo.length := by omega
          go_wp2_with fail
          go_ret
          exact ⟨rfl, HR.out⟩
end Go.Proofs.YtggkidnlmaindaaDoor
