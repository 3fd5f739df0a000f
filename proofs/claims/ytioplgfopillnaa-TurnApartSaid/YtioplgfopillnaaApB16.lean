/- RefSameAny: laid together. -/
import Derived.Test.YtioplgfopillnaaApB8
import Derived.Test.YtioplgfopillnaaApB11
/- The reference's Same at any two values. -/
set_option linter.unusedSimpArgs false
set_option linter.unusedVariables false
namespace Go.Proofs.Ytioplgfopillnaa
open Go.RowKit
set_option linter.unusedVariables false

theorem em_bool (p : Prop) : ∃ b : Bool, b = true ↔ p := (Classical.em p).elim (fun h => ⟨true, by simp [h]⟩) (fun h => ⟨false, by simp [h]⟩)
theorem u8_ne2 {a b : UInt8} (h : a ≠ b) : ((a.toNat : Int) == (b.toNat : Int)) = false ∧ ((a.toNat : Int) != (b.toNat : Int)) = true := by
  have : a.toNat ≠ b.toNat := fun e => h (UInt8.toNat_inj.1 e)
  have h2 : ((a.toNat : Int) == (b.toNat : Int)) = false := by simp; omega
  exact ⟨h2, by rw [bne, h2]; rfl⟩
theorem V.ext' {x y : V} (h1 : x.kind = y.kind) (h2 : x.n = y.n) (h3 : x.s = y.s) (h4 : x.l = y.l) (h5 : x.o = y.o) : x = y := by
  cases x; cases y
  simp only [V.kind, V.n, V.s, V.l, V.o] at *
  subst h1 h2 h3 h4 h5
  rfl
theorem F.ext' {x y : F} (h1 : x.key = y.key) (h2 : x.v = y.v) : x = y := by
  cases x; cases y
  simp only [F.key, F.v] at *
  subst h1 h2
  rfl

set_option maxRecDepth 20000 in
set_option maxHeartbeats 12800000 in
theorem rsame_any : ∀ (m : Nat) (x y : V), x.size ≤ m → ∀ (b : Bool), (b = true ↔ x = y) → ∀ (u v : Value) (S1 S2 : BS) (w : World), VAt w S1 u x → VAt w S2 v y →
    Calls Try.prog 23 #[u, v] w fun e w' => e = .returned (.bool b) ∧ Ext w w' := by
  intro m
  induction m with
  | zero => intro x y h; have := x.size_pos; omega
  | succ m ih =>
  intro x y hsz b hb u v S1 S2 w hu hv
  have hlen := V.size_eq x
  have HIH := hid ih
  have HLM := hid (fun (z : V) (hz : z ∈ x.l) => (by have := V.sizes_mem hz; omega : z.size ≤ m))
  have HOM := hid (fun (z : F) (hz : z ∈ x.o) => (by have := F.sizes_mem hz; omega : z.v.size ≤ m))
  have hno : (x.kind ≠ y.kind ∨ x.n ≠ y.n ∨ x.s ≠ y.s ∨ x.l ≠ y.l ∨ x.o ≠ y.o) → b = false := fun h => by
    cases b with
    | false => rfl
    | true =>
      have e := hb.1 rfl
      subst e
      rcases h with h | h | h | h | h <;> exact absurd rfl h
  have hyes : x.kind = y.kind → x.n = y.n → x.s = y.s → x.l = y.l → x.o = y.o → b = true := fun h1 h2 h3 h4 h5 => hb.2 (V.ext' h1 h2 h3 h4 h5)
  have HNO := hid hno
  have HYES := hid hyes
  clear ih hlen hsz hb hno hyes
  obtain ⟨l1, o1, rfl, h1, h2⟩ := hu
  obtain ⟨l2, o2, rfl, h3, h4⟩ := hv
  obtain ⟨A1, c1, rfl, hc1, hm1⟩ := h1.shape
  obtain ⟨A2, c2, rfl, hc2, hm2⟩ := h2.shape
  obtain ⟨A3, c3, rfl, _, _⟩ := h3.shape
  obtain ⟨A4, c4, rfl, _, _⟩ := h4.shape
  unfold maxLen at hm1 hm2
  generalize x.kind = k at *
  generalize x.n = n at *
  generalize x.s = s at *
  generalize x.l = xs at *
  generalize x.o = xo at *
  generalize y.kind = k' at *
  generalize y.n = n' at *
  generalize y.s = s' at *
  generalize y.l = ys at *
  generalize y.o = yo at *
  generalize hnl : ys.length = nl at *
  generalize hno : yo.length = no at *
  have HNL := hid hnl
  have HNO2 := hid hno
  have H1 := hid h1
  have H2 := hid h2
  have H3 := hid h3
  have H4 := hid h4
  obtain ⟨hb0, hb1, hE⟩ := blk_pair w TVAL #[U8 k, .int .i64 n, .string s, .slice A1 xs.length c1, .slice A2 xo.length c2] #[U8 k', .int .i64 n', .string s', .slice A3 nl c3, .slice A4 no c4]
  have HB0 := hid hb0
  have HB1 := hid hb1
  have HE := hid hE
  clear h1 h2 h3 h4 hb0 hb1 hE hnl hno
  by_cases g1 : k = k'
  · subst g1
    have e1 : ((k.toNat : Int) == k.toNat) = true := by simp
    have e1b : ((k.toNat : Int) != k.toNat) = false := by simp
    by_cases g2 : n = n'
    · subst g2
      have e2 : (n == n) = true := by simp
      have e2b : (n != n) = false := by simp
      by_cases g3 : s = s'
      · subst g3
        by_cases g4 : nl = xs.length
        · subst g4
          have e4 : ((xs.length : Int) == xs.length) = true := by simp
          have e4b : ((xs.length : Int) != xs.length) = false := by simp
          by_cases g5 : no = xo.length
          · subst g5
            have e5 : ((xo.length : Int) == xo.length) = true := by simp
            have e5b : ((xo.length : Int) != xo.length) = false := by simp
            go_enter Try.func23, Try.ntmps23
            go_wp2_with fail
            generalize ((w.alloc (.cells #[U8 k, .int .i64 n, .string s, .slice A1 xs.length c1, .slice A2 xo.length c2] TVAL)).alloc (.cells #[U8 k, .int .i64 n, .string s, .slice A3 xs.length c3, .slice A4 xo.length c4] TVAL)) = w0 at *
            go_loopw [5] (fun y wr => ∃ (j : Nat), j ≤ xs.length ∧ y = .int .i64 j ∧ xs.take j = ys.take j ∧ Ext w0 wr) (fun y _ => xs.length - (intOf y).toNat)
            case atStart => exact ⟨0, by omega, rfl, rfl, Keep.refl _ _⟩
            case round =>
              obtain ⟨j, hj, rfl, htk, hr⟩ := hrel
              have HTK := hid htk
              have hx := HB0.out.keep hr id
              have hy := HB1.out.keep hr id
              have x3 : wr.cell? ⟨w.heap.size, 3, none⟩ = some (.slice A1 xs.length c1) := hx.cell 3
              have x4 : wr.cell? ⟨w.heap.size, 4, none⟩ = some (.slice A2 xo.length c2) := hx.cell 4
              have y3 : wr.cell? ⟨w.heap.size + 1, 3, none⟩ = some (.slice A3 xs.length c3) := hy.cell 3
              have y4 : wr.cell? ⟨w.heap.size + 1, 4, none⟩ = some (.slice A4 xo.length c4) := hy.cell 4
              have HR := hid (HE.out.ext hr)
              have HR0 := hid hr
              clear hx hy hr htk
              by_cases hlt : j < xs.length
              · have hlt2 : j < ys.length := by rw [HNL.out]; exact hlt
                obtain ⟨b1, f1, d1, rfl, hb1, hs1, hr1, hc1'⟩ := (H1.out.ext EVal.ok HR.out).at_ EVal.ok hlt
                obtain ⟨b2, f2, d2, rfl, hb2, hs2, hr2, hc2'⟩ := (H3.out.ext EVal.ok HR.out).at_ EVal.ok hlt2
                obtain ⟨B1, n1, z1, B2, n2, z2, rfl, _, _, hva⟩ := EVal_cells hr1
                obtain ⟨B3, n3, z3, B4, n4, z4, rfl, _, _, hvb⟩ := EVal_cells hr2
                have p0 := hc1' 0 _ rfl
                have p1 := hc1' 1 _ rfl
                have p2 := hc1' 2 _ rfl
                have p3 := hc1' 3 _ rfl
                have p4 := hc1' 4 _ rfl
                have q0 := hc2' 0 _ rfl
                have q1 := hc2' 1 _ rfl
                have q2 := hc2' 2 _ rfl
                have q3 := hc2' 3 _ rfl
                have q4 := hc2' 4 _ rfl
                have e5' : EVal.size = 5 := rfl
                simp only [e5', Nat.add_zero] at p0 p1 p2 p3 p4 q0 q1 q2 q3 q4
                obtain ⟨bj, hbj⟩ := em_bool (xs[j] = ys[j])
                have HVA := hid hva
                have HVB := hid hvb
                have HXM := hid (HLM.out xs[j] (List.getElem_mem hlt))
                have HBJ := hid hbj
                have HN1 := hid (show xs[j] = ys[j] → xs.take (j + 1) = ys.take (j + 1) from fun h => by rw [take_succ_get _ _ hlt, take_succ_get _ _ hlt2, HTK.out, h])
                have HN0 := hid (show xs[j] ≠ ys[j] → b = false from fun h => HNO.out (.inr (.inr (.inr (.inl fun e => h (by subst e; rfl))))))
                have hjX : (j : Int) < xs.length := by omega
                clear hc1' hc2' hr1 hr2 hva hvb e5' hs1 hs2 hb1 hb2 hbj HTK
                generalize xs[j] = y at *
                generalize ys[j] = y' at *
                go_wp2_with fail
                refine wp_region_grow (specOf [(10, fun v _ => v = .bool bj)]) (fun w' => Ext wr w') ?_ (stableC_ext _) (by kernel_rfl) (by kernel_rfl) (Keep.drew (Keep.refl _ _)) ?_
                · exact stable_cons (fun v w w' h he => h) stable_nil
                iterate 10
                  (try simp only [Act.put, List.setIfInBounds_toArray, List.set_cons_zero, List.set_cons_succ])
                  refine grow_run rfl rfl rfl ?_
                  apply Exists.intro
                  refine ⟨fun w' hC hK => ?_, ?_⟩
                  · have x3 := (hC.cell (lt_of_cell x3) id).trans x3
                    have y3 := (hC.cell (lt_of_cell y3) id).trans y3
                    have p0 := (hC.cell (lt_of_cell p0) id).trans p0
                    have p1 := (hC.cell (lt_of_cell p1) id).trans p1
                    have p2 := (hC.cell (lt_of_cell p2) id).trans p2
                    have p3 := (hC.cell (lt_of_cell p3) id).trans p3
                    have p4 := (hC.cell (lt_of_cell p4) id).trans p4
                    have q0 := (hC.cell (lt_of_cell q0) id).trans q0
                    have q1 := (hC.cell (lt_of_cell q1) id).trans q1
                    have q2 := (hC.cell (lt_of_cell q2) id).trans q2
                    have q3 := (hC.cell (lt_of_cell q3) id).trans q3
                    have q4 := (hC.cell (lt_of_cell q4) id).trans q4
                    go_simp
                    rfl
                (try simp only [Act.put, List.setIfInBounds_toArray, List.set_cons_zero, List.set_cons_succ])
                refine grow_eff rfl rfl rfl (fun w' hC hK => ?_) (fun v10 hv10 => ?_)
                · unfold growAt
                  go_simp
                  refine grow_call ((HIH.out y y' HXM.out bj HBJ.out _ _ _ _ w' (HVA.out.ext hC) (HVB.out.ext hC)).mono ?_)
                  rintro e w'' ⟨rfl, h1⟩
                  exact ⟨_, rfl, h1, rfl⟩
                obtain ⟨_, _, rfl⟩ := hv10.head
                iterate 1
                  (try simp only [Act.put, List.setIfInBounds_toArray, List.set_cons_zero, List.set_cons_succ])
                  refine grow_run rfl rfl rfl ?_
                  apply Exists.intro
                  refine ⟨fun w' hC hK => ?_, ?_⟩
                  · go_simp
                    rfl
                refine grow_nil fun w4 hC _ => ?_
                have HC4 := hid (HR0.out.ext (show Ext wr w4 from hC))
                clear hC hv10 x3 x4 y3 y4 p0 p1 p2 p3 p4 q0 q1 q2 q3 q4 HVA HVB
                cases bj with
                | true =>
                  have HN := hid (HN1.out (HBJ.out.1 rfl))
                  go_wp2
                  exact ⟨⟨j + 1, by omega, by go_num, HN.out, HC4.out⟩, by simp [intOf]; omega⟩
                | false =>
                  have HN := hid (HN0.out fun h => by have := HBJ.out.2 h; cases this)
                  go_wp2
                  go_ret
                  exact ⟨by rw [HN.out]; first | rfl | simp, HE.out.ext HC4.out⟩
              · obtain rfl : j = xs.length := by omega
                have HLL := hid (show xs = ys from by have := HTK.out; rwa [List.take_length, ← HNL.out, List.take_length] at this)
                clear HTK
                go_wp2_with fail
                clear x3 x4 y3 y4
                go_loopw [7] (fun y wr => ∃ (j : Nat), j ≤ xo.length ∧ y = .int .i64 j ∧ xo.take j = yo.take j ∧ Ext w0 wr) (fun y _ => xo.length - (intOf y).toNat)
                case atStart => exact ⟨0, by omega, rfl, rfl, HR0.out⟩
                case round =>
                  clear HR HR0
                  obtain ⟨j, hj, rfl, htk, hr⟩ := hrel
                  have HTK := hid htk
                  have hx := HB0.out.keep hr id
                  have hy := HB1.out.keep hr id
                  have x4 : wr.cell? ⟨w.heap.size, 4, none⟩ = some (.slice A2 xo.length c2) := hx.cell 4
                  have y4 : wr.cell? ⟨w.heap.size + 1, 4, none⟩ = some (.slice A4 xo.length c4) := hy.cell 4
                  have HR := hid (HE.out.ext hr)
                  have HR0 := hid hr
                  clear hx hy hr htk
                  by_cases hlt : j < xo.length
                  · have hlt2 : j < yo.length := by rw [HNO2.out]; exact hlt
                    obtain ⟨b1, f1, d1, rfl, hb1, hs1, hr1, hc1'⟩ := (H2.out.ext EField.ok HR.out).at_ EField.ok hlt
                    obtain ⟨b2, f2, d2, rfl, hb2, hs2, hr2, hc2'⟩ := (H4.out.ext EField.ok HR.out).at_ EField.ok hlt2
                    obtain ⟨lv1, ov1, rfl, ⟨D1, g1, rfl⟩, ⟨D2, g2, rfl⟩, hva⟩ := EField_cells hr1
                    obtain ⟨lv2, ov2, rfl, ⟨D3, g3, rfl⟩, ⟨D4, g4, rfl⟩, hvb⟩ := EField_cells hr2
                    have p0 := hc1' 0 _ rfl
                    have p1 := hc1' 1 _ rfl
                    have p2 := hc1' 2 _ rfl
                    have p3 := hc1' 3 _ rfl
                    have p4 := hc1' 4 _ rfl
                    have p5 := hc1' 5 _ rfl
                    have q0 := hc2' 0 _ rfl
                    have q1 := hc2' 1 _ rfl
                    have q2 := hc2' 2 _ rfl
                    have q3 := hc2' 3 _ rfl
                    have q4 := hc2' 4 _ rfl
                    have q5 := hc2' 5 _ rfl
                    have e5' : EField.size = 6 := rfl
                    simp only [e5', Nat.add_zero] at p0 p1 p2 p3 p4 p5 q0 q1 q2 q3 q4 q5
                    obtain ⟨bj, hbj⟩ := em_bool (xo[j].v = yo[j].v)
                    have HVA := hid hva
                    have HVB := hid hvb
                    have HXM := hid (HOM.out xo[j] (List.getElem_mem hlt))
                    have HBJ := hid hbj
                    have HN1 := hid (show xo[j] = yo[j] → xo.take (j + 1) = yo.take (j + 1) from fun h => by rw [take_succ_get _ _ hlt, take_succ_get _ _ hlt2, HTK.out, h])
                    have HN0 := hid (show xo[j] ≠ yo[j] → b = false from fun h => HNO.out (.inr (.inr (.inr (.inr fun e => h (by subst e; rfl))))))
                    have hjX : (j : Int) < xo.length := by omega
                    clear hc1' hc2' hr1 hr2 hva hvb e5' hs1 hs2 hb1 hb2 hbj HTK
                    generalize xo[j] = y at *
                    generalize yo[j] = y' at *
                    go_wp2_with fail
                    refine wp_region_grow (specOf [(12, fun v _ => v = .bool bj)]) (fun w' => Ext wr w') ?_ (stableC_ext _) (by kernel_rfl) (by kernel_rfl) (Keep.drew (Keep.refl _ _)) ?_
                    · exact stable_cons (fun v w w' h he => h) stable_nil
                    iterate 12
                      (try simp only [Act.put, List.setIfInBounds_toArray, List.set_cons_zero, List.set_cons_succ])
                      refine grow_run rfl rfl rfl ?_
                      apply Exists.intro
                      refine ⟨fun w' hC hK => ?_, ?_⟩
                      · have x4 := (hC.cell (lt_of_cell x4) id).trans x4
                        have y4 := (hC.cell (lt_of_cell y4) id).trans y4
                        have p1 := (hC.cell (lt_of_cell p1) id).trans p1
                        have p2 := (hC.cell (lt_of_cell p2) id).trans p2
                        have p3 := (hC.cell (lt_of_cell p3) id).trans p3
                        have p4 := (hC.cell (lt_of_cell p4) id).trans p4
                        have p5 := (hC.cell (lt_of_cell p5) id).trans p5
                        have q1 := (hC.cell (lt_of_cell q1) id).trans q1
                        have q2 := (hC.cell (lt_of_cell q2) id).trans q2
                        have q3 := (hC.cell (lt_of_cell q3) id).trans q3
                        have q4 := (hC.cell (lt_of_cell q4) id).trans q4
                        have q5 := (hC.cell (lt_of_cell q5) id).trans q5
                        go_simp
                        rfl
                    (try simp only [Act.put, List.setIfInBounds_toArray, List.set_cons_zero, List.set_cons_succ])
                    refine grow_eff rfl rfl rfl (fun w' hC hK => ?_) (fun v10 hv10 => ?_)
                    · unfold growAt
                      go_simp
                      refine grow_call ((HIH.out y.v y'.v HXM.out bj HBJ.out _ _ _ _ w' (HVA.out.ext hC) (HVB.out.ext hC)).mono ?_)
                      rintro e w'' ⟨rfl, h1⟩
                      exact ⟨_, rfl, h1, rfl⟩
                    obtain ⟨_, _, rfl⟩ := hv10.head
                    iterate 1
                      (try simp only [Act.put, List.setIfInBounds_toArray, List.set_cons_zero, List.set_cons_succ])
                      refine grow_run rfl rfl rfl ?_
                      apply Exists.intro
                      refine ⟨fun w' hC hK => ?_, ?_⟩
                      · go_simp
                        rfl
                    refine grow_nil fun w4 hC _ => ?_
                    have hC : Ext wr w4 := hC
                    have HC4 := hid (HR0.out.ext hC)
                    replace x4 := (hC.cell (lt_of_cell x4) id).trans x4
                    replace y4 := (hC.cell (lt_of_cell y4) id).trans y4
                    replace p0 := (hC.cell (lt_of_cell p0) id).trans p0
                    replace q0 := (hC.cell (lt_of_cell q0) id).trans q0
                    clear hC hv10 p1 p2 p3 p4 p5 q1 q2 q3 q4 q5 HVA HVB
                    cases bj with
                    | false =>
                      have HN := hid (HN0.out fun h => by have := HBJ.out.2 (by rw [h]); cases this)
                      go_wp2_with fail
                      refine wp_region_grow (specOf []) (fun w' => Ext w4 w') stable_nil (stableC_ext _) (by kernel_rfl) (by kernel_rfl) (Keep.drew (Keep.refl _ _)) ?_
                      iterate 3
                        (try simp only [Act.put, List.setIfInBounds_toArray, List.set_cons_zero, List.set_cons_succ])
                        refine grow_run rfl rfl rfl ?_
                        apply Exists.intro
                        refine ⟨fun w' hC hK => ?_, ?_⟩
                        · go_simp
                          rfl
                      iterate 13
                        (try simp only [Act.put, List.setIfInBounds_toArray, List.set_cons_zero, List.set_cons_succ])
                        with_reducible refine grow_skip ?_ ?_ ?_
                        · rfl
                        · rfl
                      iterate 1
                        (try simp only [Act.put, List.setIfInBounds_toArray, List.set_cons_zero, List.set_cons_succ])
                        refine grow_run rfl rfl rfl ?_
                        apply Exists.intro
                        refine ⟨fun w' hC hK => ?_, ?_⟩
                        · go_simp
                          rfl
                      refine grow_nil fun w5 hC _ => ?_
                      have HC5 := hid (HC4.out.ext (show Ext w4 w5 from hC))
                      clear hC x4 y4 p0 q0
                      go_wp2
                      go_ret
                      exact ⟨by rw [HN.out]; first | rfl | simp, HE.out.ext HC5.out⟩
                    | true =>
                      have HV1 := hid (HBJ.out.1 rfl)
                      by_cases gk : y.key = y'.key
                      · have HN := hid (HN1.out (F.ext' gk HV1.out))
                        have gk2 : (y.key.toList == y'.key.toList) = true := by rw [gk]; simp
                        have gk3 := gk
                        clear gk
                        rw [← gk3] at q0 gk2
                        clear gk3
                        go_wp2_with fail
                        refine wp_region_grow (specOf []) (fun w' => Ext w4 w') stable_nil (stableC_ext _) (by kernel_rfl) (by kernel_rfl) (Keep.drew (Keep.refl _ _)) ?_
                        iterate 17
                          (try simp only [Act.put, List.setIfInBounds_toArray, List.set_cons_zero, List.set_cons_succ])
                          refine grow_run rfl rfl rfl ?_
                          apply Exists.intro
                          refine ⟨fun w' hC hK => ?_, ?_⟩
                          · have x4 := (hC.cell (lt_of_cell x4) id).trans x4
                            have y4 := (hC.cell (lt_of_cell y4) id).trans y4
                            have p0 := (hC.cell (lt_of_cell p0) id).trans p0
                            have q0 := (hC.cell (lt_of_cell q0) id).trans q0
                            go_simp
                            rfl
                        refine grow_nil fun w5 hC _ => ?_
                        have HC5 := hid (HC4.out.ext (show Ext w4 w5 from hC))
                        clear hC x4 y4 p0 q0
                        go_wp2
                        exact ⟨⟨j + 1, by omega, by go_num, HN.out, HC5.out⟩, by simp [intOf]; omega⟩
                      · have HN := hid (HN0.out fun e => gk (by rw [e]))
                        have gk2 : ¬ y.key.toList = y'.key.toList := fun e => gk (key_eq e)
                        have gk3 : (y.key.toList == y'.key.toList) = false := by simpa using gk2
                        clear gk
                        go_wp2_with fail
                        refine wp_region_grow (specOf []) (fun w' => Ext w4 w') stable_nil (stableC_ext _) (by kernel_rfl) (by kernel_rfl) (Keep.drew (Keep.refl _ _)) ?_
                        iterate 17
                          (try simp only [Act.put, List.setIfInBounds_toArray, List.set_cons_zero, List.set_cons_succ])
                          refine grow_run rfl rfl rfl ?_
                          apply Exists.intro
                          refine ⟨fun w' hC hK => ?_, ?_⟩
                          · have x4 := (hC.cell (lt_of_cell x4) id).trans x4
                            have y4 := (hC.cell (lt_of_cell y4) id).trans y4
                            have p0 := (hC.cell (lt_of_cell p0) id).trans p0
                            have q0 := (hC.cell (lt_of_cell q0) id).trans q0
                            go_simp
                            rfl
                        refine grow_nil fun w5 hC _ => ?_
                        have HC5 := hid (HC4.out.ext (show Ext w4 w5 from hC))
                        clear hC x4 y4 p0 q0
                        go_wp2
                        go_ret
                        exact ⟨by rw [HN.out]; first | rfl | simp, HE.out.ext HC5.out⟩
                  · obtain rfl : j = xo.length := by omega
                    have HOO := hid (show xo = yo from by have := HTK.out; rwa [List.take_length, ← HNO2.out, List.take_length] at this)
                    have HBB := hid (show b = true from by
                      have h := HYES.out
                      first | exact h trivial trivial trivial HLL.out HOO.out | exact h trivial rfl trivial HLL.out HOO.out | exact h trivial rfl rfl HLL.out HOO.out | exact h trivial HLL.out HOO.out)
                    clear HTK
                    go_wp2_with fail
                    go_ret
                    exact ⟨by rw [HBB.out]; first | rfl | simp, HR.out⟩
          · have HB := hid (HNO.out (.inr (.inr (.inr (.inr fun e => g5 (by rw [← HNO2.out, e]))))))
            have e5 : ((xo.length : Int) == no) = false := by simp; omega
            have e5b : ((xo.length : Int) != no) = true := by simp; omega
            clear HIH HLM HOM HYES
            go_enter Try.func23, Try.ntmps23
            go_wp2
            go_ret
            exact ⟨by rw [HB.out]; first | rfl | simp, HE.out⟩
        · have HB := hid (HNO.out (.inr (.inr (.inr (.inl fun e => g4 (by rw [← HNL.out, e]))))))
          have e4 : ((xs.length : Int) == nl) = false := by simp; omega
          have e4b : ((xs.length : Int) != nl) = true := by simp; omega
          clear HIH HLM HOM HYES
          go_enter Try.func23, Try.ntmps23
          go_wp2
          go_ret
          exact ⟨by rw [HB.out]; first | rfl | simp, HE.out⟩
      · have HB := hid (HNO.out (.inr (.inr (.inl g3))))
        have e3 : ¬ s.toList = s'.toList := fun e => g3 (key_eq e)
        have e3b : (s.toList == s'.toList) = false := by simpa using e3
        clear HIH HLM HOM HYES
        go_enter Try.func23, Try.ntmps23
        go_wp2
        go_ret
        exact ⟨by rw [HB.out]; first | rfl | simp, HE.out⟩
    · have HB := hid (HNO.out (.inr (.inl g2)))
      have e2 : (n == n') = false := by simpa using g2
      have e2b : (n != n') = true := by simpa using g2
      clear HIH HLM HOM HYES
      go_enter Try.func23, Try.ntmps23
      go_wp2
      go_ret
      exact ⟨by rw [HB.out]; first | rfl | simp, HE.out⟩
  · have HB := hid (HNO.out (.inl g1))
    obtain ⟨e1, e1b⟩ := u8_ne2 g1
    clear HIH HLM HOM HYES
    go_enter Try.func23, Try.ntmps23
    go_wp2
    go_ret
    exact ⟨by rw [HB.out]; first | rfl | simp, HE.out⟩
end Go.Proofs.Ytioplgfopillnaa
