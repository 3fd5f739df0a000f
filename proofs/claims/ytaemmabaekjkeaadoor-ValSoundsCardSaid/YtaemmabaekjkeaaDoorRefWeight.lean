/- The reference's Weight and Deep at any value. -/
import Derived.Test.YtaemmabaekjkeaaDoorValDeep
import Derived.Test.YtaemmabaekjkeaaDoorRefSame
import Derived.Test.YtaemmabaekjkeaaDoorLawOneA
set_option linter.unusedSimpArgs false
set_option linter.unusedVariables false
namespace Go.Proofs.YtaemmabaekjkeaaDoor
open Go.RowKit
set_option linter.unusedVariables false
theorem wrap_two (a b : Int) : wrap64 (wrap64 a + wrap64 b) = wrap64 (a + b) := by unfold wrap64; omega
set_option maxHeartbeats 6400000 in
theorem rweight_any : ∀ (m : Nat) (x : V), x.size ≤ m → ∀ (u : Value) (S1 : BS) (w : World), VAt w S1 u x →
    Calls Tryd.prog 16 #[u] w fun e w' => e = .returned (.int .i64 (wrap64 x.weight)) ∧ Ext w w' := by
  intro m
  induction m with
  | zero => intro x h; have := x.size_pos; omega
  | succ m ih =>
  intro x hsz u S1 w hu
  have hlen := V.size_eq x
  have HIH := hid ih
  have HLM := hid (fun (z : V) (hz : z ∈ x.l) => (by have := V.sizes_mem hz; omega : z.size ≤ m))
  have HOM := hid (fun (z : F) (hz : z ∈ x.o) => (by have := F.sizes_mem hz; omega : z.v.size ≤ m))
  skip
  have HRES := hid (show wrap64 (1 + x.s.size + V.weights x.l + F.weights x.o) = wrap64 x.weight from by rw [V.weight_eq]; congr 1; omega)
  obtain ⟨res, hres⟩ : ∃ r, wrap64 x.weight = r := ⟨_, rfl⟩
  rw [hres] at HRES ⊢
  clear ih hlen hsz hres
  obtain ⟨l1, o1, rfl, h1, h2⟩ := hu
  obtain ⟨A1, c1, rfl, hc1, hm1⟩ := h1.shape
  obtain ⟨A2, c2, rfl, hc2, hm2⟩ := h2.shape
  unfold maxLen at hm1 hm2
  generalize x.kind = k at *
  generalize x.n = n at *
  generalize x.s = s at *
  generalize x.l = xs at *
  generalize x.o = xo at *
  have H1 := hid h1
  have H2 := hid h2
  have hb0 := Blk.new w TVAL #[U8 k, .int .i64 n, .string s, .slice A1 xs.length c1, .slice A2 xo.length c2]
  have hE : Ext w (w.alloc (.cells #[U8 k, .int .i64 n, .string s, .slice A1 xs.length c1, .slice A2 xo.length c2] TVAL)) := (Keep.refl _ _).alloc _
  have HB0 := hid hb0
  have HE := hid hE
  clear h1 h2 hb0 hE
  go_enter Tryd.func16, Tryd.ntmps16
  go_wp2_with fail
  generalize (w.alloc (.cells #[U8 k, .int .i64 n, .string s, .slice A1 xs.length c1, .slice A2 xo.length c2] TVAL)) = w0 at *
  go_loopw [3, 4] (fun a y wr => ∃ (j : Nat), j ≤ xs.length ∧ y = .int .i64 j ∧ a = .int .i64 (wrap64 (1 + s.size + V.weights (xs.take j))) ∧ Ext w0 wr) (fun _ y _ => xs.length - (intOf y).toNat)
  case atStart => exact ⟨0, by omega, rfl, by simp [V.weights], Keep.refl _ _⟩
  case round =>
    obtain ⟨j, hj, rfl, rfl, hr⟩ := hrel
    have hx := HB0.out.keep hr id
    have x3 : wr.cell? ⟨w.heap.size, 3, none⟩ = some (.slice A1 xs.length c1) := hx.cell 3
    have x4 : wr.cell? ⟨w.heap.size, 4, none⟩ = some (.slice A2 xo.length c2) := hx.cell 4
    have HR := hid (HE.out.ext hr)
    have HR0 := hid hr
    clear hx hr
    by_cases hlt : j < xs.length
    · obtain ⟨b1, f1, d1, rfl, hb1, hs1, hr1, hc1'⟩ := (H1.out.ext EVal.ok HR.out).at_ EVal.ok hlt
      obtain ⟨B1, n1, z1, B2, n2, z2, rfl, _, _, hva⟩ := EVal_cells hr1
      have p0 := hc1' 0 _ rfl
      have p1 := hc1' 1 _ rfl
      have p2 := hc1' 2 _ rfl
      have p3 := hc1' 3 _ rfl
      have p4 := hc1' 4 _ rfl
      have e5' : EVal.size = 5 := rfl
      simp only [e5', Nat.add_zero] at p0 p1 p2 p3 p4
      have HVA := hid hva
      have HXM := hid (HLM.out xs[j] (List.getElem_mem hlt))
      have HNX := hid (show wrap64 (wrap64 (1 + s.size + V.weights (xs.take j)) + wrap64 xs[j].weight) = wrap64 (1 + s.size + V.weights (xs.take (j + 1))) from by rw [wrap_two, take_succ_get _ _ hlt, V.weights_append, V.weights_one]; congr 1; omega)
      have hjX : (j : Int) < xs.length := by omega
      clear hc1' hr1 hva e5' hs1 hb1
      generalize xs[j] = y at *
      skip
      skip
      go_wp2_with fail
      refine (HIH.out y HXM.out _ _ wr HVA.out).mono ?_
      rintro e w4 ⟨rfl, hE4⟩
      have HC4 := hid (HR0.out.ext hE4)
      clear hE4 x3 x4 p0 p1 p2 p3 p4 HVA
      go_wp2_with fail
      exact ⟨⟨j + 1, by omega, by go_num, by rw [HNX.out], HC4.out⟩, by simp [intOf]; omega⟩
    · obtain rfl : j = xs.length := by omega
      rw [List.take_length]
      go_wp2_with fail
      clear x3 x4
      go_loopw [3, 5] (fun a y wr => ∃ (j : Nat), j ≤ xo.length ∧ y = .int .i64 j ∧ a = .int .i64 (wrap64 (1 + s.size + V.weights xs + F.weights (xo.take j))) ∧ Ext w0 wr) (fun _ y _ => xo.length - (intOf y).toNat)
      case atStart => exact ⟨0, by omega, rfl, by simp [F.weights, F.deeps], HR0.out⟩
      case round =>
        clear HR HR0
        obtain ⟨j, hj, rfl, rfl, hr⟩ := hrel
        have hx := HB0.out.keep hr id
        have x4 : wr.cell? ⟨w.heap.size, 4, none⟩ = some (.slice A2 xo.length c2) := hx.cell 4
        have HR := hid (HE.out.ext hr)
        have HR0 := hid hr
        clear hx hr
        by_cases hlt : j < xo.length
        · obtain ⟨b1, f1, d1, rfl, hb1, hs1, hr1, hc1'⟩ := (H2.out.ext EField.ok HR.out).at_ EField.ok hlt
          obtain ⟨lv1, ov1, rfl, ⟨D1, g1, rfl⟩, ⟨D2, g2, rfl⟩, hva⟩ := EField_cells hr1
          have p0 := hc1' 0 _ rfl
          have p1 := hc1' 1 _ rfl
          have p2 := hc1' 2 _ rfl
          have p3 := hc1' 3 _ rfl
          have p4 := hc1' 4 _ rfl
          have p5 := hc1' 5 _ rfl
          have e5' : EField.size = 6 := rfl
          simp only [e5', Nat.add_zero] at p0 p1 p2 p3 p4 p5
          have HVA := hid hva
          have HXM := hid (HOM.out xo[j] (List.getElem_mem hlt))
          have HNX := hid (show wrap64 (wrap64 (1 + s.size + V.weights xs + F.weights (xo.take j)) + wrap64 (xo[j].key.size + wrap64 xo[j].v.weight)) = wrap64 (1 + s.size + V.weights xs + F.weights (xo.take (j + 1))) from by rw [wrap_add, take_succ_get _ _ hlt, F.weights_append, F.weights_one, F.weight_eq]; congr 1; omega)
          have hjX : (j : Int) < xo.length := by omega
          clear hc1' hr1 hva e5' hs1 hb1
          generalize xo[j] = y at *
          skip
          skip
          go_wp2_with fail
          refine wp_region_grow (specOf [(14, fun v _ => v = .int .i64 (wrap64 y.v.weight))]) (fun w' => Ext wr w') (stable_cons (fun v w w' h he => h) stable_nil) (stableC_ext _) (by kernel_rfl) (by kernel_rfl) (Keep.drew (Keep.refl _ _)) ?_
          iterate 14
            (try simp only [Act.put, List.setIfInBounds_toArray, List.set_cons_zero, List.set_cons_succ])
            refine grow_run rfl rfl rfl ?_
            apply Exists.intro
            refine ⟨fun w' hC hK => ?_, ?_⟩
            · have x4 := (hC.cell (lt_of_cell x4) id).trans x4
              have p0 := (hC.cell (lt_of_cell p0) id).trans p0
              have p1 := (hC.cell (lt_of_cell p1) id).trans p1
              have p2 := (hC.cell (lt_of_cell p2) id).trans p2
              have p3 := (hC.cell (lt_of_cell p3) id).trans p3
              have p4 := (hC.cell (lt_of_cell p4) id).trans p4
              have p5 := (hC.cell (lt_of_cell p5) id).trans p5
              go_simp
              rfl
          (try simp only [Act.put, List.setIfInBounds_toArray, List.set_cons_zero, List.set_cons_succ])
          refine grow_eff rfl rfl rfl (fun w' hC hK => ?_) (fun v10 hv10 => ?_)
          · unfold growAt
            go_simp
            refine grow_call ((HIH.out y.v HXM.out _ _ w' (HVA.out.ext hC)).mono ?_)
            rintro e w'' ⟨rfl, h1⟩
            exact ⟨_, rfl, h1, rfl⟩
          obtain ⟨_, _, rfl⟩ := hv10.head
          iterate 3
            (try simp only [Act.put, List.setIfInBounds_toArray, List.set_cons_zero, List.set_cons_succ])
            refine grow_run rfl rfl rfl ?_
            apply Exists.intro
            refine ⟨fun w' hC hK => ?_, ?_⟩
            · go_simp
              rfl
          refine grow_nil fun w4 hC _ => ?_
          have HC4 := hid (HR0.out.ext (show Ext wr w4 from hC))
          clear hC hv10 x4 p0 p1 p2 p3 p4 p5 HVA
          go_wp2_with fail
          exact ⟨⟨j + 1, by omega, by go_num, by rw [HNX.out], HC4.out⟩, by simp [intOf]; omega⟩
        · obtain rfl : j = xo.length := by omega
          rw [List.take_length, HRES.out]
          go_wp2_with fail
          go_ret
          exact ⟨rfl, HR.out⟩
set_option maxHeartbeats 6400000 in
theorem rdeep_any : ∀ (m : Nat) (x : V), x.size ≤ m → m ≤ 1000000 → ∀ (u : Value) (S1 : BS) (w : World), VAt w S1 u x →
    Calls Tryd.prog 18 #[u] w fun e w' => e = .returned (.int .i64 x.deep) ∧ Ext w w' := by
  intro m
  induction m with
  | zero => intro x h; have := x.size_pos; omega
  | succ m ih =>
  intro x hsz hmx u S1 w hu
  have hlen := V.size_eq x
  have HIH := hid ih
  have HLM := hid (fun (z : V) (hz : z ∈ x.l) => (by have := V.sizes_mem hz; omega : z.size ≤ m))
  have HOM := hid (fun (z : F) (hz : z ∈ x.o) => (by have := F.sizes_mem hz; omega : z.v.size ≤ m))
  have HMM := hid (show m ≤ 1000000 by omega)
  have HRES := hid (show ((max (V.deeps x.l) (F.deeps x.o) : Nat)) = x.deep from (V.deep_eq x).symm)
  obtain ⟨res, hres⟩ : ∃ r, x.deep = r := ⟨_, rfl⟩
  rw [hres] at HRES ⊢
  clear ih hlen hsz hres hmx
  obtain ⟨l1, o1, rfl, h1, h2⟩ := hu
  obtain ⟨A1, c1, rfl, hc1, hm1⟩ := h1.shape
  obtain ⟨A2, c2, rfl, hc2, hm2⟩ := h2.shape
  unfold maxLen at hm1 hm2
  generalize x.kind = k at *
  generalize x.n = n at *
  generalize x.s = s at *
  generalize x.l = xs at *
  generalize x.o = xo at *
  have H1 := hid h1
  have H2 := hid h2
  have hb0 := Blk.new w TVAL #[U8 k, .int .i64 n, .string s, .slice A1 xs.length c1, .slice A2 xo.length c2]
  have hE : Ext w (w.alloc (.cells #[U8 k, .int .i64 n, .string s, .slice A1 xs.length c1, .slice A2 xo.length c2] TVAL)) := (Keep.refl _ _).alloc _
  have HB0 := hid hb0
  have HE := hid hE
  clear h1 h2 hb0 hE
  go_enter Tryd.func18, Tryd.ntmps18
  go_wp2_with fail
  generalize (w.alloc (.cells #[U8 k, .int .i64 n, .string s, .slice A1 xs.length c1, .slice A2 xo.length c2] TVAL)) = w0 at *
  go_loopw [3, 4] (fun a y wr => ∃ (j : Nat), j ≤ xs.length ∧ y = .int .i64 j ∧ a = .int .i64 (V.deeps (xs.take j) : Int) ∧ Ext w0 wr) (fun _ y _ => xs.length - (intOf y).toNat)
  case atStart => exact ⟨0, by omega, rfl, by simp [V.deeps], Keep.refl _ _⟩
  case round =>
    obtain ⟨j, hj, rfl, rfl, hr⟩ := hrel
    have hx := HB0.out.keep hr id
    have x3 : wr.cell? ⟨w.heap.size, 3, none⟩ = some (.slice A1 xs.length c1) := hx.cell 3
    have x4 : wr.cell? ⟨w.heap.size, 4, none⟩ = some (.slice A2 xo.length c2) := hx.cell 4
    have HR := hid (HE.out.ext hr)
    have HR0 := hid hr
    clear hx hr
    by_cases hlt : j < xs.length
    · obtain ⟨b1, f1, d1, rfl, hb1, hs1, hr1, hc1'⟩ := (H1.out.ext EVal.ok HR.out).at_ EVal.ok hlt
      obtain ⟨B1, n1, z1, B2, n2, z2, rfl, _, _, hva⟩ := EVal_cells hr1
      have p0 := hc1' 0 _ rfl
      have p1 := hc1' 1 _ rfl
      have p2 := hc1' 2 _ rfl
      have p3 := hc1' 3 _ rfl
      have p4 := hc1' 4 _ rfl
      have e5' : EVal.size = 5 := rfl
      simp only [e5', Nat.add_zero] at p0 p1 p2 p3 p4
      have HVA := hid hva
      have HXM := hid (HLM.out xs[j] (List.getElem_mem hlt))
      have HNX := hid (show V.deeps (xs.take (j + 1)) = max (V.deeps (xs.take j)) (xs[j].deep + 1) from by rw [take_succ_get _ _ hlt, V.deeps_append, V.deeps_one])
      have hjX : (j : Int) < xs.length := by omega
      clear hc1' hr1 hva e5' hs1 hb1
      generalize xs[j] = y at *
      have hdl := V.deep_lt y
      have hdn : (y.deep : Int) ≤ 1000000 := by have := HXM.out; have := HMM.out; omega
      generalize V.deeps (xs.take j) = dp at *
      go_wp2_with fail
      refine (HIH.out y HXM.out HMM.out _ _ wr HVA.out).mono ?_
      rintro e w4 ⟨rfl, hE4⟩
      have HC4 := hid (HR0.out.ext hE4)
      clear hE4 x3 x4 p0 p1 p2 p3 p4 HVA
      by_cases hmx : (dp : Int) < 1 + y.deep
      · go_wp2_with fail
        exact ⟨⟨j + 1, by omega, by go_num, by have := HNX.out; congr 1; omega, HC4.out⟩, by simp [intOf]; omega⟩
      · go_wp2_with fail
        exact ⟨⟨j + 1, by omega, by go_num, by have := HNX.out; congr 1; omega, HC4.out⟩, by simp [intOf]; omega⟩
    · obtain rfl : j = xs.length := by omega
      rw [List.take_length]
      go_wp2_with fail
      clear x3 x4
      go_loopw [3, 5] (fun a y wr => ∃ (j : Nat), j ≤ xo.length ∧ y = .int .i64 j ∧ a = .int .i64 (max (V.deeps xs) (F.deeps (xo.take j)) : Nat) ∧ Ext w0 wr) (fun _ y _ => xo.length - (intOf y).toNat)
      case atStart => exact ⟨0, by omega, rfl, by simp [F.weights, F.deeps], HR0.out⟩
      case round =>
        clear HR HR0
        obtain ⟨j, hj, rfl, rfl, hr⟩ := hrel
        have hx := HB0.out.keep hr id
        have x4 : wr.cell? ⟨w.heap.size, 4, none⟩ = some (.slice A2 xo.length c2) := hx.cell 4
        have HR := hid (HE.out.ext hr)
        have HR0 := hid hr
        clear hx hr
        by_cases hlt : j < xo.length
        · obtain ⟨b1, f1, d1, rfl, hb1, hs1, hr1, hc1'⟩ := (H2.out.ext EField.ok HR.out).at_ EField.ok hlt
          obtain ⟨lv1, ov1, rfl, ⟨D1, g1, rfl⟩, ⟨D2, g2, rfl⟩, hva⟩ := EField_cells hr1
          have p0 := hc1' 0 _ rfl
          have p1 := hc1' 1 _ rfl
          have p2 := hc1' 2 _ rfl
          have p3 := hc1' 3 _ rfl
          have p4 := hc1' 4 _ rfl
          have p5 := hc1' 5 _ rfl
          have e5' : EField.size = 6 := rfl
          simp only [e5', Nat.add_zero] at p0 p1 p2 p3 p4 p5
          have HVA := hid hva
          have HXM := hid (HOM.out xo[j] (List.getElem_mem hlt))
          have HNX := hid (show max (V.deeps xs) (F.deeps (xo.take (j + 1))) = max (max (V.deeps xs) (F.deeps (xo.take j))) (xo[j].v.deep + 1) from by rw [take_succ_get _ _ hlt, F.deeps_append, F.deeps_one, F.deep_eq]; omega)
          have hjX : (j : Int) < xo.length := by omega
          clear hc1' hr1 hva e5' hs1 hb1
          generalize xo[j] = y at *
          have hdl := V.deep_lt y.v
          have hdn : (y.v.deep : Int) ≤ 1000000 := by have := HXM.out; have := HMM.out; omega
          generalize max (V.deeps xs) (F.deeps (xo.take j)) = dp at *
          go_wp2_with fail
          refine (HIH.out y.v HXM.out HMM.out _ _ wr HVA.out).mono ?_
          rintro e w4 ⟨rfl, hE4⟩
          have HC4 := hid (HR0.out.ext hE4)
          clear hE4 x4 p0 p1 p2 p3 p4 p5 HVA
          by_cases hmx : (dp : Int) < 1 + y.v.deep
          · go_wp2_with fail
            exact ⟨⟨j + 1, by omega, by go_num, by have := HNX.out; congr 1; omega, HC4.out⟩, by simp [intOf]; omega⟩
          · go_wp2_with fail
            exact ⟨⟨j + 1, by omega, by go_num, by have := HNX.out; congr 1; omega, HC4.out⟩, by simp [intOf]; omega⟩
        · obtain rfl : j = xo.length := by omega
          rw [List.take_length, HRES.out]
          go_wp2_with fail
          go_ret
          exact ⟨rfl, HR.out⟩
end Go.Proofs.YtaemmabaekjkeaaDoor
