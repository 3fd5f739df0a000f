/- RefSameAny, ValSame, CloneVal, CloneField: laid together. -/
import Derived.Test.YtihaliffcobacaaGreatDoorSbB6
import Derived.Test.YtihaliffcobacaaGreatDoorSbB8
import Derived.Test.YtihaliffcobacaaGreatDoorSbB2
set_option linter.unusedSimpArgs false
set_option linter.unusedVariables false
set_option maxHeartbeats 25600000
set_option maxRecDepth 20000
namespace Go.Proofs.YtihaliffcobacaaGreatDoor
open Go.RowKit
theorem em_bool (p : Prop) : ∃ b : Bool, b = true ↔ p := (Classical.em p).elim (fun h => ⟨true, by simp [h]⟩) (fun h => ⟨false, by simp [h]⟩)
theorem u8_ne2 {a b : UInt8} (h : a ≠ b) : ((a.toNat : Int) == (b.toNat : Int)) = false ∧ ((a.toNat : Int) != (b.toNat : Int)) = true := by
 have : a.toNat ≠ b.toNat := fun e => h (UInt8.toNat_inj.1 e)
 have h2 : ((a.toNat : Int) == (b.toNat : Int)) = false := by simp; omega
 exact ⟨h2, by rw [bne, h2]; rfl⟩
theorem V.ext' {x y : V} (h1 : x.kind = y.kind) (h2 : x.n = y.n) (h3 : x.s = y.s) (h4 : x.l = y.l) (h5 : x.o = y.o) : x = y := by
 cases x; cases y
 simp only [V.kind, V.n, V.s, V.l, V.o] at *
 subst h1 h2 h3 h4 h5
 rfl
theorem F.ext' {x y : F} (h1 : x.key = y.key) (h2 : x.v = y.v) : x = y := by
 cases x; cases y
 simp only [F.key, F.v] at *
 subst h1 h2
 rfl
theorem rsame_any : ∀ (m : Nat) (x y : V), x.size ≤ m → ∀ (b : Bool), (b = true ↔ x = y) → ∀ (u v : Value) (S1 S2 : BS) (w : World), VAt w S1 u x → VAt w S2 v y →
  Calls Tryz.prog 16 #[u, v] w fun e w' => e = .returned (.bool b) ∧ Ext w w' := by
 intro m
 induction m with
 | zero => intro x y h; have := x.size_pos; omega
 | succ m ih =>
 intro x y hsz b hb u v S1 S2 w hu hv
 have hlen := V.size_eq x
 have HIH := hid ih
 have HLM := hid (fun (z : V) (hz : z ∈ x.l) => (by have := V.sizes_mem hz; omega : z.size ≤ m))
 have HOM := hid (fun (z : F) (hz : z ∈ x.o) => (by have := F.sizes_mem hz; omega : z.v.size ≤ m))
 have hno : (x.kind ≠ y.kind ∨ x.n ≠ y.n ∨ x.s ≠ y.s ∨ x.l ≠ y.l ∨ x.o ≠ y.o) → b = false := fun h => by
  cases b with
  | false => rfl
  | true =>
   have e := hb.1 rfl
   subst e
   rcases h with h | h | h | h | h <;> exact absurd rfl h
 have hyes : x.kind = y.kind → x.n = y.n → x.s = y.s → x.l = y.l → x.o = y.o → b = true := fun h1 h2 h3 h4 h5 => hb.2 (V.ext' h1 h2 h3 h4 h5)
 have HNO := hid hno
 have HYES := hid hyes
 clear ih hlen hsz hb hno hyes
 obtain ⟨l1, o1, rfl, h1, h2⟩ := hu
 obtain ⟨l2, o2, rfl, h3, h4⟩ := hv
 obtain ⟨A1, c1, rfl, hc1, hm1⟩ := h1.shape
 obtain ⟨A2, c2, rfl, hc2, hm2⟩ := h2.shape
 obtain ⟨A3, c3, rfl, _, _⟩ := h3.shape
 obtain ⟨A4, c4, rfl, _, _⟩ := h4.shape
 unfold maxLen at hm1 hm2
 generalize x.kind = k at *
 generalize x.n = n at *
 generalize x.s = s at *
 generalize x.l = xs at *
 generalize x.o = xo at *
 generalize y.kind = k' at *
 generalize y.n = n' at *
 generalize y.s = s' at *
 generalize y.l = ys at *
 generalize y.o = yo at *
 generalize hnl : ys.length = nl at *
 generalize hno : yo.length = no at *
 have HNL := hid hnl
 have HNO2 := hid hno
 have H1 := hid h1
 have H2 := hid h2
 have H3 := hid h3
 have H4 := hid h4
 obtain ⟨hb0, hb1, hE⟩ := blk_pair w TVAL #[U8 k, .int .i64 n, .string s, .slice A1 xs.length c1, .slice A2 xo.length c2] #[U8 k', .int .i64 n', .string s', .slice A3 nl c3, .slice A4 no c4]
 have HB0 := hid hb0
 have HB1 := hid hb1
 have HE := hid hE
 clear h1 h2 h3 h4 hb0 hb1 hE hnl hno
 by_cases g1 : k = k'
 ·subst g1
  have e1 : ((k.toNat : Int) == k.toNat) = true := by simp
  have e1b : ((k.toNat : Int) != k.toNat) = false := by simp
  by_cases g2 : n = n'
  ·subst g2
   have e2 : (n == n) = true := by simp
   have e2b : (n != n) = false := by simp
   by_cases g3 : s = s'
   ·subst g3
    by_cases g4 : nl = xs.length
    ·subst g4
     have e4 : ((xs.length : Int) == xs.length) = true := by simp
     have e4b : ((xs.length : Int) != xs.length) = false := by simp
     by_cases g5 : no = xo.length
     ·subst g5
      have e5 : ((xo.length : Int) == xo.length) = true := by simp
      have e5b : ((xo.length : Int) != xo.length) = false := by simp
      go_enter Tryz.func16, Tryz.ntmps16
      go_wp2_with fail
      generalize ((w.alloc (.cells #[U8 k, .int .i64 n, .string s, .slice A1 xs.length c1, .slice A2 xo.length c2] TVAL)).alloc (.cells #[U8 k, .int .i64 n, .string s, .slice A3 xs.length c3, .slice A4 xo.length c4] TVAL)) = w0 at *
      go_loopw [5] (fun y wr => ∃ (j : Nat), j ≤ xs.length ∧ y = .int .i64 j ∧ xs.take j = ys.take j ∧ Ext w0 wr) (fun y _ => xs.length - (intOf y).toNat)
      case atStart => exact ⟨0, by omega, rfl, rfl, Keep.refl _ _⟩
      case round =>
       obtain ⟨j, hj, rfl, htk, hr⟩ := hrel
       have HTK := hid htk
       have hx := HB0.out.keep hr id
       have hy := HB1.out.keep hr id
       have x3 : wr.cell? ⟨w.heap.size, 3, none⟩ = some (.slice A1 xs.length c1) := hx.cell 3
       have x4 : wr.cell? ⟨w.heap.size, 4, none⟩ = some (.slice A2 xo.length c2) := hx.cell 4
       have y3 : wr.cell? ⟨w.heap.size + 1, 3, none⟩ = some (.slice A3 xs.length c3) := hy.cell 3
       have y4 : wr.cell? ⟨w.heap.size + 1, 4, none⟩ = some (.slice A4 xo.length c4) := hy.cell 4
       have HR := hid (HE.out.ext hr)
       have HR0 := hid hr
       clear hx hy hr htk
       by_cases hlt : j < xs.length
       ·have hlt2 : j < ys.length := by rw [HNL.out]; exact hlt
        obtain ⟨b1, f1, d1, rfl, hb1, hs1, hr1, hc1'⟩ := (H1.out.ext EVal.ok HR.out).at_ EVal.ok hlt
        obtain ⟨b2, f2, d2, rfl, hb2, hs2, hr2, hc2'⟩ := (H3.out.ext EVal.ok HR.out).at_ EVal.ok hlt2
        obtain ⟨B1, n1, z1, B2, n2, z2, rfl, _, _, hva⟩ := EVal_cells hr1
        obtain ⟨B3, n3, z3, B4, n4, z4, rfl, _, _, hvb⟩ := EVal_cells hr2
        have p0 := hc1' 0 _ rfl
        have p1 := hc1' 1 _ rfl
        have p2 := hc1' 2 _ rfl
        have p3 := hc1' 3 _ rfl
        have p4 := hc1' 4 _ rfl
        have q0 := hc2' 0 _ rfl
        have q1 := hc2' 1 _ rfl
        have q2 := hc2' 2 _ rfl
        have q3 := hc2' 3 _ rfl
        have q4 := hc2' 4 _ rfl
        have e5' : EVal.size = 5 := rfl
        simp only [e5', Nat.add_zero] at p0 p1 p2 p3 p4 q0 q1 q2 q3 q4
        obtain ⟨bj, hbj⟩ := em_bool (xs[j] = ys[j])
        have HVA := hid hva
        have HVB := hid hvb
        have HXM := hid (HLM.out xs[j] (List.getElem_mem hlt))
        have HBJ := hid hbj
        have HN1 := hid (show xs[j] = ys[j] → xs.take (j + 1) = ys.take (j + 1) from fun h => by rw [take_succ_get _ _ hlt, take_succ_get _ _ hlt2, HTK.out, h])
        have HN0 := hid (show xs[j] ≠ ys[j] → b = false from fun h => HNO.out (.inr (.inr (.inr (.inl fun e => h (by subst e; rfl))))))
        have hjX : (j : Int) < xs.length := by omega
        clear hc1' hc2' hr1 hr2 hva hvb e5' hs1 hs2 hb1 hb2 hbj HTK
        generalize xs[j] = y at *
        generalize ys[j] = y' at *
        go_wp2_with fail
        refine wp_region_grow (specOf [(10, fun v _ => v = .bool bj)]) (fun w' => Ext wr w') ?_ (stableC_ext _) (by kernel_rfl) (by kernel_rfl) (Keep.drew (Keep.refl _ _)) ?_
        ·exact stable_cons (fun v w w' h he => h) stable_nil
        iterate 10
         (try simp only [Act.put, sqa, sqb, sqc])
         refine grow_run rfl rfl rfl ?_
         apply Exists.intro
         refine ⟨fun w' hC hK => ?_, ?_⟩
         ·have x3 := sqw hC x3
          have y3 := sqw hC y3
          have p0 := sqw hC p0
          have p1 := sqw hC p1
          have p2 := sqw hC p2
          have p3 := sqw hC p3
          have p4 := sqw hC p4
          have q0 := sqw hC q0
          have q1 := sqw hC q1
          have q2 := sqw hC q2
          have q3 := sqw hC q3
          have q4 := sqw hC q4
          go_simp
          rfl
        (try simp only [Act.put, sqa, sqb, sqc])
        refine grow_eff rfl rfl rfl (fun w' hC hK => ?_) (fun v10 hv10 => ?_)
        ·unfold growAt
         go_simp
         refine grow_call ((HIH.out y y' HXM.out bj HBJ.out _ _ _ _ w' (HVA.out.ext hC) (HVB.out.ext hC)).mono ?_)
         rintro e w'' ⟨rfl, h1⟩
         exact ⟨_, rfl, h1, rfl⟩
        obtain ⟨_, _, rfl⟩ := hv10.head
        iterate 1
         (try simp only [Act.put, sqa, sqb, sqc])
         refine grow_run rfl rfl rfl ?_
         apply Exists.intro
         refine ⟨fun w' hC hK => ?_, ?_⟩
         ·go_simp
          rfl
        refine grow_nil fun w4 hC _ => ?_
        have HC4 := hid (HR0.out.ext (show Ext wr w4 from hC))
        clear hC hv10 x3 x4 y3 y4 p0 p1 p2 p3 p4 q0 q1 q2 q3 q4 HVA HVB
        cases bj with
        | true =>
         have HN := hid (HN1.out (HBJ.out.1 rfl))
         go_wp2
         exact ⟨⟨j + 1, by omega, by go_num, HN.out, HC4.out⟩, by simp [intOf]; omega⟩
        | false =>
         have HN := hid (HN0.out fun h => by have := HBJ.out.2 h; cases this)
         go_wp2
         go_ret
         exact ⟨by rw [HN.out]; first | rfl | simp, HE.out.ext HC4.out⟩
       ·obtain rfl : j = xs.length := by omega
        have HLL := hid (show xs = ys from by have := HTK.out; rwa [List.take_length, ← HNL.out, List.take_length] at this)
        clear HTK
        go_wp2_with fail
        clear x3 x4 y3 y4
        go_loopw [7] (fun y wr => ∃ (j : Nat), j ≤ xo.length ∧ y = .int .i64 j ∧ xo.take j = yo.take j ∧ Ext w0 wr) (fun y _ => xo.length - (intOf y).toNat)
        case atStart => exact ⟨0, by omega, rfl, rfl, HR0.out⟩
        case round =>
         clear HR HR0
         obtain ⟨j, hj, rfl, htk, hr⟩ := hrel
         have HTK := hid htk
         have hx := HB0.out.keep hr id
         have hy := HB1.out.keep hr id
         have x4 : wr.cell? ⟨w.heap.size, 4, none⟩ = some (.slice A2 xo.length c2) := hx.cell 4
         have y4 : wr.cell? ⟨w.heap.size + 1, 4, none⟩ = some (.slice A4 xo.length c4) := hy.cell 4
         have HR := hid (HE.out.ext hr)
         have HR0 := hid hr
         clear hx hy hr htk
         by_cases hlt : j < xo.length
         ·have hlt2 : j < yo.length := by rw [HNO2.out]; exact hlt
          obtain ⟨b1, f1, d1, rfl, hb1, hs1, hr1, hc1'⟩ := (H2.out.ext EField.ok HR.out).at_ EField.ok hlt
          obtain ⟨b2, f2, d2, rfl, hb2, hs2, hr2, hc2'⟩ := (H4.out.ext EField.ok HR.out).at_ EField.ok hlt2
          obtain ⟨lv1, ov1, rfl, ⟨D1, g1, rfl⟩, ⟨D2, g2, rfl⟩, hva⟩ := EField_cells hr1
          obtain ⟨lv2, ov2, rfl, ⟨D3, g3, rfl⟩, ⟨D4, g4, rfl⟩, hvb⟩ := EField_cells hr2
          have p0 := hc1' 0 _ rfl
          have p1 := hc1' 1 _ rfl
          have p2 := hc1' 2 _ rfl
          have p3 := hc1' 3 _ rfl
          have p4 := hc1' 4 _ rfl
          have p5 := hc1' 5 _ rfl
          have q0 := hc2' 0 _ rfl
          have q1 := hc2' 1 _ rfl
          have q2 := hc2' 2 _ rfl
          have q3 := hc2' 3 _ rfl
          have q4 := hc2' 4 _ rfl
          have q5 := hc2' 5 _ rfl
          have e5' : EField.size = 6 := rfl
          simp only [e5', Nat.add_zero] at p0 p1 p2 p3 p4 p5 q0 q1 q2 q3 q4 q5
          obtain ⟨bj, hbj⟩ := em_bool (xo[j].v = yo[j].v)
          have HVA := hid hva
          have HVB := hid hvb
          have HXM := hid (HOM.out xo[j] (List.getElem_mem hlt))
          have HBJ := hid hbj
          have HN1 := hid (show xo[j] = yo[j] → xo.take (j + 1) = yo.take (j + 1) from fun h => by rw [take_succ_get _ _ hlt, take_succ_get _ _ hlt2, HTK.out, h])
          have HN0 := hid (show xo[j] ≠ yo[j] → b = false from fun h => HNO.out (.inr (.inr (.inr (.inr fun e => h (by subst e; rfl))))))
          have hjX : (j : Int) < xo.length := by omega
          clear hc1' hc2' hr1 hr2 hva hvb e5' hs1 hs2 hb1 hb2 hbj HTK
          generalize xo[j] = y at *
          generalize yo[j] = y' at *
          go_wp2_with fail
          refine wp_region_grow (specOf [(12, fun v _ => v = .bool bj)]) (fun w' => Ext wr w') ?_ (stableC_ext _) (by kernel_rfl) (by kernel_rfl) (Keep.drew (Keep.refl _ _)) ?_
          ·exact stable_cons (fun v w w' h he => h) stable_nil
          iterate 12
           (try simp only [Act.put, sqa, sqb, sqc])
           refine grow_run rfl rfl rfl ?_
           apply Exists.intro
           refine ⟨fun w' hC hK => ?_, ?_⟩
           ·have x4 := sqw hC x4
            have y4 := sqw hC y4
            have p1 := sqw hC p1
            have p2 := sqw hC p2
            have p3 := sqw hC p3
            have p4 := sqw hC p4
            have p5 := sqw hC p5
            have q1 := sqw hC q1
            have q2 := sqw hC q2
            have q3 := sqw hC q3
            have q4 := sqw hC q4
            have q5 := sqw hC q5
            go_simp
            rfl
          (try simp only [Act.put, sqa, sqb, sqc])
          refine grow_eff rfl rfl rfl (fun w' hC hK => ?_) (fun v10 hv10 => ?_)
          ·unfold growAt
           go_simp
           refine grow_call ((HIH.out y.v y'.v HXM.out bj HBJ.out _ _ _ _ w' (HVA.out.ext hC) (HVB.out.ext hC)).mono ?_)
           rintro e w'' ⟨rfl, h1⟩
           exact ⟨_, rfl, h1, rfl⟩
          obtain ⟨_, _, rfl⟩ := hv10.head
          iterate 1
           (try simp only [Act.put, sqa, sqb, sqc])
           refine grow_run rfl rfl rfl ?_
           apply Exists.intro
           refine ⟨fun w' hC hK => ?_, ?_⟩
           ·go_simp
            rfl
          refine grow_nil fun w4 hC _ => ?_
          have hC : Ext wr w4 := hC
          have HC4 := hid (HR0.out.ext hC)
          replace x4 := sqw hC x4
          replace y4 := sqw hC y4
          replace p0 := sqw hC p0
          replace q0 := sqw hC q0
          clear hC hv10 p1 p2 p3 p4 p5 q1 q2 q3 q4 q5 HVA HVB
          cases bj with
          | false =>
           have HN := hid (HN0.out fun h => by have := HBJ.out.2 (by rw [h]); cases this)
           go_wp2_with fail
           refine wp_region_grow (specOf []) (fun w' => Ext w4 w') stable_nil (stableC_ext _) (by kernel_rfl) (by kernel_rfl) (Keep.drew (Keep.refl _ _)) ?_
           iterate 3
            (try simp only [Act.put, sqa, sqb, sqc])
            refine grow_run rfl rfl rfl ?_
            apply Exists.intro
            refine ⟨fun w' hC hK => ?_, ?_⟩
            ·go_simp
             rfl
           iterate 13
            (try simp only [Act.put, sqa, sqb, sqc])
            with_reducible refine grow_skip ?_ ?_ ?_
            ·rfl
            ·rfl
           iterate 1
            (try simp only [Act.put, sqa, sqb, sqc])
            refine grow_run rfl rfl rfl ?_
            apply Exists.intro
            refine ⟨fun w' hC hK => ?_, ?_⟩
            ·go_simp
             rfl
           refine grow_nil fun w5 hC _ => ?_
           have HC5 := hid (HC4.out.ext (show Ext w4 w5 from hC))
           clear hC x4 y4 p0 q0
           go_wp2
           go_ret
           exact ⟨by rw [HN.out]; first | rfl | simp, HE.out.ext HC5.out⟩
          | true =>
           have HV1 := hid (HBJ.out.1 rfl)
           by_cases gk : y.key = y'.key
           ·have HN := hid (HN1.out (F.ext' gk HV1.out))
            have gk2 : (y.key.toList == y'.key.toList) = true := by rw [gk]; simp
            have gk3 := gk
            clear gk
            rw [← gk3] at q0 gk2
            clear gk3
            go_wp2_with fail
            refine wp_region_grow (specOf []) (fun w' => Ext w4 w') stable_nil (stableC_ext _) (by kernel_rfl) (by kernel_rfl) (Keep.drew (Keep.refl _ _)) ?_
            iterate 17
             (try simp only [Act.put, sqa, sqb, sqc])
             refine grow_run rfl rfl rfl ?_
             apply Exists.intro
             refine ⟨fun w' hC hK => ?_, ?_⟩
             ·have x4 := sqw hC x4
              have y4 := sqw hC y4
              have p0 := sqw hC p0
              have q0 := sqw hC q0
              go_simp
              rfl
            refine grow_nil fun w5 hC _ => ?_
            have HC5 := hid (HC4.out.ext (show Ext w4 w5 from hC))
            clear hC x4 y4 p0 q0
            go_wp2
            exact ⟨⟨j + 1, by omega, by go_num, HN.out, HC5.out⟩, by simp [intOf]; omega⟩
           ·have HN := hid (HN0.out fun e => gk (by rw [e]))
            have gk2 : ¬ y.key.toList = y'.key.toList := fun e => gk (key_eq e)
            have gk3 : (y.key.toList == y'.key.toList) = false := by simpa using gk2
            clear gk
            go_wp2_with fail
            refine wp_region_grow (specOf []) (fun w' => Ext w4 w') stable_nil (stableC_ext _) (by kernel_rfl) (by kernel_rfl) (Keep.drew (Keep.refl _ _)) ?_
            iterate 17
             (try simp only [Act.put, sqa, sqb, sqc])
             refine grow_run rfl rfl rfl ?_
             apply Exists.intro
             refine ⟨fun w' hC hK => ?_, ?_⟩
             ·have x4 := sqw hC x4
              have y4 := sqw hC y4
              have p0 := sqw hC p0
              have q0 := sqw hC q0
              go_simp
              rfl
            refine grow_nil fun w5 hC _ => ?_
            have HC5 := hid (HC4.out.ext (show Ext w4 w5 from hC))
            clear hC x4 y4 p0 q0
            go_wp2
            go_ret
            exact ⟨by rw [HN.out]; first | rfl | simp, HE.out.ext HC5.out⟩
         ·obtain rfl : j = xo.length := by omega
          have HOO := hid (show xo = yo from by have := HTK.out; rwa [List.take_length, ← HNO2.out, List.take_length] at this)
          have HBB := hid (show b = true from by
           have h := HYES.out
           first | exact h trivial trivial trivial HLL.out HOO.out | exact h trivial rfl trivial HLL.out HOO.out | exact h trivial rfl rfl HLL.out HOO.out | exact h trivial HLL.out HOO.out)
          clear HTK
          go_wp2_with fail
          go_ret
          exact ⟨by rw [HBB.out]; first | rfl | simp, HR.out⟩
     ·have HB := hid (HNO.out (.inr (.inr (.inr (.inr fun e => g5 (by rw [← HNO2.out, e]))))))
      have e5 : ((xo.length : Int) == no) = false := by simp; omega
      have e5b : ((xo.length : Int) != no) = true := by simp; omega
      clear HIH HLM HOM HYES
      go_enter Tryz.func16, Tryz.ntmps16
      go_wp2
      go_ret
      exact ⟨by rw [HB.out]; first | rfl | simp, HE.out⟩
    ·have HB := hid (HNO.out (.inr (.inr (.inr (.inl fun e => g4 (by rw [← HNL.out, e]))))))
     have e4 : ((xs.length : Int) == nl) = false := by simp; omega
     have e4b : ((xs.length : Int) != nl) = true := by simp; omega
     clear HIH HLM HOM HYES
     go_enter Tryz.func16, Tryz.ntmps16
     go_wp2
     go_ret
     exact ⟨by rw [HB.out]; first | rfl | simp, HE.out⟩
   ·have HB := hid (HNO.out (.inr (.inr (.inl g3))))
    have e3 : ¬ s.toList = s'.toList := fun e => g3 (key_eq e)
    have e3b : (s.toList == s'.toList) = false := by simpa using e3
    clear HIH HLM HOM HYES
    go_enter Tryz.func16, Tryz.ntmps16
    go_wp2
    go_ret
    exact ⟨by rw [HB.out]; first | rfl | simp, HE.out⟩
  ·have HB := hid (HNO.out (.inr (.inl g2)))
   have e2 : (n == n') = false := by simpa using g2
   have e2b : (n != n') = true := by simpa using g2
   clear HIH HLM HOM HYES
   go_enter Tryz.func16, Tryz.ntmps16
   go_wp2
   go_ret
   exact ⟨by rw [HB.out]; first | rfl | simp, HE.out⟩
 ·have HB := hid (HNO.out (.inl g1))
  obtain ⟨e1, e1b⟩ := u8_ne2 g1
  clear HIH HLM HOM HYES
  go_enter Tryz.func16, Tryz.ntmps16
  go_wp2
  go_ret
  exact ⟨by rw [HB.out]; first | rfl | simp, HE.out⟩
theorem blk5' {w : World} {b : Nat} {T : TypeId} {a0 a1 a2 a3 a4 : Value} (h : Blk w b T #[a0, a1, a2, a3, a4]) : w.cell? ⟨b, 0, none⟩ = some a0 ∧ w.cell? ⟨b, 1, none⟩ = some a1 ∧ w.cell? ⟨b, 2, none⟩ = some a2 ∧ w.cell? ⟨b, 3, none⟩ = some a3 ∧ w.cell? ⟨b, 4, none⟩ = some a4 :=
 ⟨h.cell 0, h.cell 1, h.cell 2, h.cell 3, h.cell 4⟩
def SameAt (y : V) : Prop := ∀ (y' : V) (b : Bool), (b = true ↔ y = y') → ∀ (u v : Value) (S1 S2 : BS) (w : World), VAt w S1 u y → VAt w S2 v y' →
  Calls Tryz.prog 25 #[u, v] w fun e w' => e = .returned (.bool b) ∧ Ext w w'
abbrev sameF : Value := .func (.func 25) #[] #[]
abbrev same1F : Value := .func (.func 55) #[] #[]
theorem eqf_val (xs ys : List V) (b : Bool) (hb : b = true ↔ xs = ys) (hs : ∀ y ∈ xs, SameAt y) (v1 v2 : Value) (S1 S2 : BS) (w : World) (h1 : Sl EVal w S1 v1 xs) (h2 : Sl EVal w S2 v2 ys) :
  Calls Tryz.prog 53 #[v1, v2, sameF] w fun e w' => e = .returned (.bool b) ∧ Ext w w' := by
 obtain ⟨A1, c1, rfl, hc1, hm1⟩ := h1.shape
 obtain ⟨A2, c2, rfl, hc2, hm2⟩ := h2.shape
 unfold maxLen at hm1 hm2
 have H1 := hid h1
 have H2 := hid h2
 have HS := hid hs
 have HB := hid hb
 have hno : xs ≠ ys → b = false := fun h => by
  cases b with
  | false => rfl
  | true => exact absurd (hb.1 rfl) h
 have HNO := hid hno
 generalize hnl : ys.length = nl at *
 have HNL := hid hnl
 clear h1 h2 hs hb hno hnl
 by_cases g4 : nl = xs.length
 ·subst g4
  have e4 : ((xs.length : Int) != xs.length) = false := by simp
  go_enter Tryz.func53, Tryz.ntmps53
  go_wp2
  clear e4
  go_loopw [17] (fun y wr => ∃ (j : Nat), j ≤ xs.length ∧ y = .int .i64 j ∧ xs.take j = ys.take j ∧ Ext w wr) (fun y _ => xs.length - (intOf y).toNat)
  case atStart => exact ⟨0, by omega, rfl, rfl, Keep.refl _ _⟩
  case round =>
   obtain ⟨j, hj, rfl, htk, hr⟩ := hrel
   have HTK := hid htk
   have HR := hid hr
   clear hr htk
   by_cases hlt : j < xs.length
   ·have hlt2 : j < ys.length := by rw [HNL.out]; exact hlt
    obtain ⟨b1, f1, d1, rfl, hb1, hs1, hr1, hc1'⟩ := (H1.out.ext EVal.ok HR.out).at_ EVal.ok hlt
    obtain ⟨b2, f2, d2, rfl, hb2, hs2, hr2, hc2'⟩ := (H2.out.ext EVal.ok HR.out).at_ EVal.ok hlt2
    obtain ⟨Ay1, _, cy1, Ay2, _, cy2, rfl, rfl, rfl, hva⟩ := EVal_cells hr1
    obtain ⟨Ax1, _, cx1, Ax2, _, cx2, rfl, rfl, rfl, hvb⟩ := EVal_cells hr2
    have p0 := hc1' 0 _ rfl
    have q0 := hc2' 0 _ rfl
    have p1 := hc1' 1 _ rfl
    have q1 := hc2' 1 _ rfl
    have p2 := hc1' 2 _ rfl
    have q2 := hc2' 2 _ rfl
    have p3 := hc1' 3 _ rfl
    have q3 := hc2' 3 _ rfl
    have p4 := hc1' 4 _ rfl
    have q4 := hc2' 4 _ rfl
    have e5' : EVal.size = 5 := rfl
    simp only [e5', Nat.add_zero] at p0 p1 p2 p3 p4 q0 q1 q2 q3 q4
    obtain ⟨bj, hbj⟩ := em_bool (xs[j] = ys[j])
    have HVA := hid hva
    have HVB := hid hvb
    have HS1 := hid (HS.out xs[j] (List.getElem_mem hlt))
    have HBJ := hid hbj
    have HN1 := hid (show xs[j] = ys[j] → xs.take (j + 1) = ys.take (j + 1) from fun h => by rw [take_succ_get _ _ hlt, take_succ_get _ _ hlt2, HTK.out, h])
    have HN0 := hid (show xs[j] ≠ ys[j] → b = false from fun h => HNO.out fun e => h (by subst e; rfl))
    clear hc1' hc2' hr1 hr2 hva hvb e5' hb1 hb2 hbj HTK
    generalize xs[j] = y at *
    generalize ys[j] = y' at *
    have hX : Ext wr ((wr.alloc (.cells #[U8 y.kind, .int .i64 y.n, .string y.s, .slice Ay1 y.l.length cy1, .slice Ay2 y.o.length cy2] TVAL)).alloc (.cells #[U8 y'.kind, .int .i64 y'.n, .string y'.s, .slice Ax1 y'.l.length cx1, .slice Ax2 y'.o.length cx2] TVAL)) := ((Keep.refl _ _).alloc _).alloc _
    have HC := hid (HS1.out y' bj HBJ.out _ _ _ _ _ (VAt.ext HVA.out hX) (VAt.ext HVB.out hX))
    have HX := hid (HR.out.ext hX)
    have b0x := (Blk.new wr TVAL #[U8 y.kind, .int .i64 y.n, .string y.s, .slice Ay1 y.l.length cy1, .slice Ay2 y.o.length cy2]).alloc (.cells #[U8 y'.kind, .int .i64 y'.n, .string y'.s, .slice Ax1 y'.l.length cx1, .slice Ax2 y'.o.length cx2] TVAL)
    have b1x := Blk.new (wr.alloc (.cells #[U8 y.kind, .int .i64 y.n, .string y.s, .slice Ay1 y.l.length cy1, .slice Ay2 y.o.length cy2] TVAL)) TVAL #[U8 y'.kind, .int .i64 y'.n, .string y'.s, .slice Ax1 y'.l.length cx1, .slice Ax2 y'.o.length cx2]
    clear hX HVA HVB b0x b1x
    go_wp2_with fail
    refine HC.out.mono ?_
    rintro e w4 ⟨rfl, hE4⟩
    have HC4 := hid (HX.out.ext hE4)
    clear hE4 p0 p1 p2 p3 p4 q0 q1 q2 q3 q4 HC
    cases bj with
    | true =>
     have HN := hid (HN1.out (HBJ.out.1 rfl))
     go_wp2
     go_roundw
     case rel => exact ⟨j + 1, by omega, by go_num, HN.out, HC4.out⟩
     case measure => simp [intOf]; omega
    | false =>
     have HN := hid (HN0.out fun h => by have := HBJ.out.2 h; cases this)
     go_wp2
     go_ret
     exact ⟨by rw [HN.out]; first | rfl | simp, HC4.out⟩
   ·obtain rfl : j = xs.length := by omega
    have HLL := hid (HB.out.2 (show xs = ys from by have := HTK.out; rwa [List.take_length, ← HNL.out, List.take_length] at this))
    clear HTK
    go_wp2
    go_ret
    exact ⟨by rw [HLL.out]; first | rfl | simp, HR.out⟩
 ·have HBB := hid (HNO.out fun e => g4 (by rw [← HNL.out, e]))
  have e4 : ((xs.length : Int) != nl) = true := by simp; omega
  go_enter Tryz.func53, Tryz.ntmps53
  go_wp2
  go_ret
  exact ⟨by rw [HBB.out]; first | rfl | simp, Keep.refl _ _⟩
theorem same1_ok (y y' : F) (b : Bool) (hb : b = true ↔ y = y') (hs : SameAt y.v) (A1 A2 A3 A4 : Option Addr) (c1 c2 c3 c4 : Nat) (S1 S2 : BS) (w : World)
  (h1 : VAt w S1 (.agg #[U8 y.v.kind, .int .i64 y.v.n, .string y.v.s, .slice A1 y.v.l.length c1, .slice A2 y.v.o.length c2]) y.v) (h2 : VAt w S2 (.agg #[U8 y'.v.kind, .int .i64 y'.v.n, .string y'.v.s, .slice A3 y'.v.l.length c3, .slice A4 y'.v.o.length c4]) y'.v) :
  Calls Tryz.prog 55 #[.agg #[.string y.key, U8 y.v.kind, .int .i64 y.v.n, .string y.v.s, .slice A1 y.v.l.length c1, .slice A2 y.v.o.length c2], .agg #[.string y'.key, U8 y'.v.kind, .int .i64 y'.v.n, .string y'.v.s, .slice A3 y'.v.l.length c3, .slice A4 y'.v.o.length c4]] w fun e w' => e = .returned (.bool b) ∧ Ext w w' := by
 have hX : Ext w ((w.alloc (.cells #[.string y.key, U8 y.v.kind, .int .i64 y.v.n, .string y.v.s, .slice A1 y.v.l.length c1, .slice A2 y.v.o.length c2] TFIELD)).alloc (.cells #[.string y'.key, U8 y'.v.kind, .int .i64 y'.v.n, .string y'.v.s, .slice A3 y'.v.l.length c3, .slice A4 y'.v.o.length c4] TFIELD)) := ((Keep.refl _ _).alloc _).alloc _
 have HX := hid hX
 by_cases gk : y.key = y'.key
 ·obtain ⟨bj, hbj⟩ := em_bool (y.v = y'.v)
  have HC := hid (hs y'.v bj hbj _ _ S1 S2 _ (VAt.ext h1 hX) (VAt.ext h2 hX))
  have HB := hid (show b = bj from by
   rw [Bool.eq_iff_iff, hb, hbj]
   exact ⟨fun h => by rw [h], fun h => F.ext' gk h⟩)
  rw [← gk] at HC HX ⊢
  clear h1 h2 hs hb hbj hX gk
  have gk2 : (y.key.toList == y.key.toList) = true := by simp
  go_enter Tryz.func55, Tryz.ntmps55
  go_wp2_with fail
  refine HC.out.mono ?_
  rintro e w4 ⟨rfl, hE4⟩
  have HE4 := hid (HX.out.ext hE4)
  clear hE4 HC
  go_wp2
  go_ret
  exact ⟨by rw [HB.out]; first | rfl | simp, HE4.out⟩
 ·have HB := hid (show b = false from by
   cases b with
   | false => rfl
   | true => exact absurd (by rw [hb.1 rfl]) gk)
  have gk2 : ¬ y.key.toList = y'.key.toList := fun e => gk (key_eq e)
  have gk3 : (y.key.toList == y'.key.toList) = false := by simpa using gk2
  clear h1 h2 hs hb hX gk
  go_enter Tryz.func55, Tryz.ntmps55
  go_wp2
  go_ret
  exact ⟨by rw [HB.out]; first | rfl | simp, HX.out⟩
theorem eqf_field (xs ys : List F) (b : Bool) (hb : b = true ↔ xs = ys) (hs : ∀ y ∈ xs, SameAt y.v) (v1 v2 : Value) (S1 S2 : BS) (w : World) (h1 : Sl EField w S1 v1 xs) (h2 : Sl EField w S2 v2 ys) :
  Calls Tryz.prog 54 #[v1, v2, same1F] w fun e w' => e = .returned (.bool b) ∧ Ext w w' := by
 obtain ⟨A1, c1, rfl, hc1, hm1⟩ := h1.shape
 obtain ⟨A2, c2, rfl, hc2, hm2⟩ := h2.shape
 unfold maxLen at hm1 hm2
 have H1 := hid h1
 have H2 := hid h2
 have HS := hid hs
 have HB := hid hb
 have hno : xs ≠ ys → b = false := fun h => by
  cases b with
  | false => rfl
  | true => exact absurd (hb.1 rfl) h
 have HNO := hid hno
 generalize hnl : ys.length = nl at *
 have HNL := hid hnl
 clear h1 h2 hs hb hno hnl
 by_cases g4 : nl = xs.length
 ·subst g4
  have e4 : ((xs.length : Int) != xs.length) = false := by simp
  go_enter Tryz.func54, Tryz.ntmps54
  go_wp2
  clear e4
  go_loopw [17] (fun y wr => ∃ (j : Nat), j ≤ xs.length ∧ y = .int .i64 j ∧ xs.take j = ys.take j ∧ Ext w wr) (fun y _ => xs.length - (intOf y).toNat)
  case atStart => exact ⟨0, by omega, rfl, rfl, Keep.refl _ _⟩
  case round =>
   obtain ⟨j, hj, rfl, htk, hr⟩ := hrel
   have HTK := hid htk
   have HR := hid hr
   clear hr htk
   by_cases hlt : j < xs.length
   ·have hlt2 : j < ys.length := by rw [HNL.out]; exact hlt
    obtain ⟨b1, f1, d1, rfl, hb1, hs1, hr1, hc1'⟩ := (H1.out.ext EField.ok HR.out).at_ EField.ok hlt
    obtain ⟨b2, f2, d2, rfl, hb2, hs2, hr2, hc2'⟩ := (H2.out.ext EField.ok HR.out).at_ EField.ok hlt2
    obtain ⟨_, _, rfl, ⟨Ay1, cy1, rfl⟩, ⟨Ay2, cy2, rfl⟩, hva⟩ := EField_cells hr1
    obtain ⟨_, _, rfl, ⟨Ax1, cx1, rfl⟩, ⟨Ax2, cx2, rfl⟩, hvb⟩ := EField_cells hr2
    have p0 := hc1' 0 _ rfl
    have q0 := hc2' 0 _ rfl
    have p1 := hc1' 1 _ rfl
    have q1 := hc2' 1 _ rfl
    have p2 := hc1' 2 _ rfl
    have q2 := hc2' 2 _ rfl
    have p3 := hc1' 3 _ rfl
    have q3 := hc2' 3 _ rfl
    have p4 := hc1' 4 _ rfl
    have q4 := hc2' 4 _ rfl
    have p5 := hc1' 5 _ rfl
    have q5 := hc2' 5 _ rfl
    have e5' : EField.size = 6 := rfl
    simp only [e5', Nat.add_zero] at p0 p1 p2 p3 p4 p5 q0 q1 q2 q3 q4 q5
    obtain ⟨bj, hbj⟩ := em_bool (xs[j] = ys[j])
    have HVA := hid hva
    have HVB := hid hvb
    have HS1 := hid (HS.out xs[j] (List.getElem_mem hlt))
    have HBJ := hid hbj
    have HN1 := hid (show xs[j] = ys[j] → xs.take (j + 1) = ys.take (j + 1) from fun h => by rw [take_succ_get _ _ hlt, take_succ_get _ _ hlt2, HTK.out, h])
    have HN0 := hid (show xs[j] ≠ ys[j] → b = false from fun h => HNO.out fun e => h (by subst e; rfl))
    clear hc1' hc2' hr1 hr2 hva hvb e5' hb1 hb2 hbj HTK
    generalize xs[j] = y at *
    generalize ys[j] = y' at *
    have hX : Ext wr ((wr.alloc (.cells #[.string y.key, U8 y.v.kind, .int .i64 y.v.n, .string y.v.s, .slice Ay1 y.v.l.length cy1, .slice Ay2 y.v.o.length cy2] TFIELD)).alloc (.cells #[.string y'.key, U8 y'.v.kind, .int .i64 y'.v.n, .string y'.v.s, .slice Ax1 y'.v.l.length cx1, .slice Ax2 y'.v.o.length cx2] TFIELD)) := ((Keep.refl _ _).alloc _).alloc _
    have HC := hid (same1_ok y y' bj HBJ.out HS1.out _ _ _ _ _ _ _ _ _ _ _ (VAt.ext HVA.out hX) (VAt.ext HVB.out hX))
    have HX := hid (HR.out.ext hX)
    have b0x := (Blk.new wr TFIELD #[.string y.key, U8 y.v.kind, .int .i64 y.v.n, .string y.v.s, .slice Ay1 y.v.l.length cy1, .slice Ay2 y.v.o.length cy2]).alloc (.cells #[.string y'.key, U8 y'.v.kind, .int .i64 y'.v.n, .string y'.v.s, .slice Ax1 y'.v.l.length cx1, .slice Ax2 y'.v.o.length cx2] TFIELD)
    have b1x := Blk.new (wr.alloc (.cells #[.string y.key, U8 y.v.kind, .int .i64 y.v.n, .string y.v.s, .slice Ay1 y.v.l.length cy1, .slice Ay2 y.v.o.length cy2] TFIELD)) TFIELD #[.string y'.key, U8 y'.v.kind, .int .i64 y'.v.n, .string y'.v.s, .slice Ax1 y'.v.l.length cx1, .slice Ax2 y'.v.o.length cx2]
    clear hX HVA HVB b0x b1x
    go_wp2_with fail
    refine HC.out.mono ?_
    rintro e w4 ⟨rfl, hE4⟩
    have HC4 := hid (HX.out.ext hE4)
    clear hE4 p0 p1 p2 p3 p4 p5 q0 q1 q2 q3 q4 q5 HC
    cases bj with
    | true =>
     have HN := hid (HN1.out (HBJ.out.1 rfl))
     go_wp2
     go_roundw
     case rel => exact ⟨j + 1, by omega, by go_num, HN.out, HC4.out⟩
     case measure => simp [intOf]; omega
    | false =>
     have HN := hid (HN0.out fun h => by have := HBJ.out.2 h; cases this)
     go_wp2
     go_ret
     exact ⟨by rw [HN.out]; first | rfl | simp, HC4.out⟩
   ·obtain rfl : j = xs.length := by omega
    have HLL := hid (HB.out.2 (show xs = ys from by have := HTK.out; rwa [List.take_length, ← HNL.out, List.take_length] at this))
    clear HTK
    go_wp2
    go_ret
    exact ⟨by rw [HLL.out]; first | rfl | simp, HR.out⟩
 ·have HBB := hid (HNO.out fun e => g4 (by rw [← HNL.out, e]))
  have e4 : ((xs.length : Int) != nl) = true := by simp; omega
  go_enter Tryz.func54, Tryz.ntmps54
  go_wp2
  go_ret
  exact ⟨by rw [HBB.out]; first | rfl | simp, Keep.refl _ _⟩
theorem same_any : ∀ (m : Nat) (x : V), x.size ≤ m → SameAt x := by
 intro m
 induction m with
 | zero => intro x h; have := x.size_pos; omega
 | succ m ih =>
 intro x hsz y b hb u v S1 S2 w hu hv
 have hlen := V.size_eq x
 have HLM := hid (fun (z : V) (hz : z ∈ x.l) => ih z (by have := V.sizes_mem hz; omega))
 have HOM := hid (fun (z : F) (hz : z ∈ x.o) => ih z.v (by have := F.sizes_mem hz; omega))
 have hno : (x.kind ≠ y.kind ∨ x.n ≠ y.n ∨ x.s ≠ y.s ∨ x.l ≠ y.l ∨ x.o ≠ y.o) → b = false := fun h => by
  cases b with
  | false => rfl
  | true =>
   have e := hb.1 rfl
   subst e
   rcases h with h | h | h | h | h <;> exact absurd rfl h
 have hyes : x.kind = y.kind ∧ x.n = y.n ∧ x.s = y.s ∧ x.l = y.l ∧ x.o = y.o → b = true := fun ⟨h1, h2, h3, h4, h5⟩ => hb.2 (V.ext' h1 h2 h3 h4 h5)
 have HNO := hid hno
 have HYES := hid hyes
 clear ih hlen hsz hb hno hyes
 obtain ⟨l1, o1, rfl, h1, h2⟩ := hu
 obtain ⟨l2, o2, rfl, h3, h4⟩ := hv
 obtain ⟨A1, c1, rfl, hc1, hm1⟩ := h1.shape
 obtain ⟨A2, c2, rfl, hc2, hm2⟩ := h2.shape
 obtain ⟨A3, c3, rfl, _, _⟩ := h3.shape
 obtain ⟨A4, c4, rfl, _, _⟩ := h4.shape
 unfold maxLen at hm1 hm2
 generalize x.kind = k at *
 generalize x.n = n at *
 generalize x.s = s at *
 generalize x.l = xs at *
 generalize x.o = xo at *
 generalize y.kind = k' at *
 generalize y.n = n' at *
 generalize y.s = s' at *
 generalize y.l = ys at *
 generalize y.o = yo at *
 obtain ⟨hb0, hb1, hE⟩ := blk_pair w TVAL #[U8 k, .int .i64 n, .string s, .slice A1 xs.length c1, .slice A2 xo.length c2] #[U8 k', .int .i64 n', .string s', .slice A3 ys.length c3, .slice A4 yo.length c4]
 obtain ⟨bl, hbl⟩ := em_bool (xs = ys)
 obtain ⟨bo, hbo⟩ := em_bool (xo = yo)
 have HCL := hid (fun w1 (h : Ext w w1) => eqf_val xs ys bl hbl HLM.out _ _ S1 S2 w1 (h1.ext EVal.ok h) (h3.ext EVal.ok h))
 have HCO := hid (fun w1 (h : Ext w w1) => eqf_field xo yo bo hbo HOM.out _ _ S1 S2 w1 (h2.ext EField.ok h) (h4.ext EField.ok h))
 have HB0 := hid hb0
 have HB1 := hid hb1
 have HE := hid hE
 have HBL := hid hbl
 have HBO := hid hbo
 clear h1 h2 h3 h4 hb0 hb1 hE HLM HOM hbl hbo
 by_cases g1 : k = k'
 ·subst g1
  have e1 : ((k.toNat : Int) == k.toNat) = true := by simp
  by_cases g2 : n = n'
  ·subst g2
   have e2 : (n == n) = true := by simp
   by_cases g3 : s = s'
   ·subst g3
    have e3 : (s.toList == s.toList) = true := by simp
    have HYES2 := hid (show xs = ys ∧ xo = yo → b = true from fun h => by
     have h2 := HYES.out
     simp only [h.1, h.2, true_and, and_self, and_true, forall_const, true_implies] at h2
     exact h2)
    clear HYES
    go_enter Tryz.func25, Tryz.ntmps25
    go_wp2_with fail
    refine (HCL.out _ HE.out).mono ?_
    rintro e w2 ⟨rfl, hE2⟩
    replace HE := hid (HE.out.ext hE2)
    replace HB0 := hid (HB0.out.keep hE2 id)
    replace HB1 := hid (HB1.out.keep hE2 id)
    clear hE2
    obtain ⟨q0, q1, q2, q3, q4⟩ := blk5' HB0.out
    obtain ⟨p0, p1, p2, p3, p4⟩ := blk5' HB1.out
    cases bl with
    | false =>
     have HB := hid (HNO.out (.inr (.inr (.inr (.inl fun e => by have := HBL.out.2 e; cases this)))))
     go_wp2
     go_ret
     exact ⟨by rw [HB.out]; first | rfl | simp, HE.out⟩
    | true =>
     go_wp2_with fail
     refine (HCO.out _ HE.out).mono ?_
     rintro e w3 ⟨rfl, hE3⟩
     have HE3 := hid (HE.out.ext hE3)
     have HB := hid (show bo = b from by
      cases bo with
      | true => exact (HYES2.out ⟨by first | exact HBL.out.1 rfl | exact HBL.out.1 trivial | exact HBL.out, by first | exact HBO.out.1 rfl | exact HBO.out.1 trivial | exact HBO.out⟩).symm
      | false => exact (HNO.out (.inr (.inr (.inr (.inr fun e => by have := HBO.out.2 e; cases this))))).symm)
     clear hE3 q0 q1 q2 q3 q4 p0 p1 p2 p3 p4
     go_wp2
     go_ret
     exact ⟨by rw [← HB.out]; first | rfl | simp, HE3.out⟩
   ·have HB := hid (HNO.out (.inr (.inr (.inl g3))))
    have e3 : ¬ s.toList = s'.toList := fun e => g3 (key_eq e)
    have e3b : (s.toList == s'.toList) = false := by simpa using e3
    go_enter Tryz.func25, Tryz.ntmps25
    go_wp2
    go_ret
    exact ⟨by rw [HB.out]; first | rfl | simp, HE.out⟩
  ·have HB := hid (HNO.out (.inr (.inl g2)))
   have e2 : (n == n') = false := by simpa using g2
   go_enter Tryz.func25, Tryz.ntmps25
   go_wp2
   go_ret
   exact ⟨by rw [HB.out]; first | rfl | simp, HE.out⟩
 ·have HB := hid (HNO.out (.inl g1))
  obtain ⟨e1, e1b⟩ := u8_ne2 g1
  go_enter Tryz.func25, Tryz.ntmps25
  go_wp2
  go_ret
  exact ⟨by rw [HB.out]; first | rfl | simp, HE.out⟩
end Go.Proofs.YtihaliffcobacaaGreatDoor
