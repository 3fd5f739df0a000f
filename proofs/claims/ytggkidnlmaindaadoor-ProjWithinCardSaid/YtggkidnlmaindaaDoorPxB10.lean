/- RefSameAny, PathBeg, PathSnd, LawKnown3, LawHeavy3, PathLaw, PathAtP, PathP: laid together. -/
import Derived.Test.YtggkidnlmaindaaDoorPxB6
import Derived.Test.YtggkidnlmaindaaDoorPxB7
import Derived.Test.YtggkidnlmaindaaDoorPxB9
import Derived.Laws.Strings
import Derived.Test.YtggkidnlmaindaaDoorPxB8
import Derived.Test.YtggkidnlmaindaaDoorPxB4
import Derived.Test.YtggkidnlmaindaaDoorPxB2
import Derived.Laws.IdiomCopy
set_option linter.unusedSimpArgs false
set_option linter.unusedVariables false
set_option maxHeartbeats 25600000
set_option maxRecDepth 20000
namespace Go.Proofs.YtggkidnlmaindaaDoor
open Go.RowKit
theorem em_bool (p : Prop) : ∃ b : Bool, b = true ↔ p := (Classical.em p).elim (fun h => ⟨true, by simp [h]⟩) (fun h => ⟨false, by simp [h]⟩)
theorem u8_ne2 {a b : UInt8} (h : a ≠ b) : ((a.toNat : Int) == (b.toNat : Int)) = false ∧ ((a.toNat : Int) != (b.toNat : Int)) = true := by
 have : a.toNat ≠ b.toNat := fun e => h (UInt8.toNat_inj.1 e)
 have h2 : ((a.toNat : Int) == (b.toNat : Int)) = false := by simp; omega
 exact ⟨h2, by rw [bne, h2]; rfl⟩
theorem V.ext' {x y : V} (h1 : x.kind = y.kind) (h2 : x.n = y.n) (h3 : x.s = y.s) (h4 : x.l = y.l) (h5 : x.o = y.o) : x = y := by
 cases x; cases y
 simp only [V.kind, V.n, V.s, V.l, V.o] at *
 subst h1 h2 h3 h4 h5
 rfl
theorem F.ext' {x y : F} (h1 : x.key = y.key) (h2 : x.v = y.v) : x = y := by
 cases x; cases y
 simp only [F.key, F.v] at *
 subst h1 h2
 rfl
theorem rsame_any : ∀ (m : Nat) (x y : V), x.size ≤ m → ∀ (b : Bool), (b = true ↔ x = y) → ∀ (u v : Value) (S1 S2 : BS) (w : World), VAt w S1 u x → VAt w S2 v y →
  Calls Tryd.prog 16 #[u, v] w fun e w' => e = .returned (.bool b) ∧ Ext w w' := by
 intro m
 induction m with
 | zero => intro x y h; have := x.size_pos; omega
 | succ m ih =>
 intro x y hsz b hb u v S1 S2 w hu hv
 have hlen := V.size_eq x
 have HIH := hid ih
 have HLM := hid (fun (z : V) (hz : z ∈ x.l) => (by have := V.sizes_mem hz; omega : z.size ≤ m))
 have HOM := hid (fun (z : F) (hz : z ∈ x.o) => (by have := F.sizes_mem hz; omega : z.v.size ≤ m))
 have hno : (x.kind ≠ y.kind ∨ x.n ≠ y.n ∨ x.s ≠ y.s ∨ x.l ≠ y.l ∨ x.o ≠ y.o) → b = false := fun h => by
  cases b with
  | false => rfl
  | true =>
   have e := hb.1 rfl
   subst e
   rcases h with h | h | h | h | h <;> exact absurd rfl h
 have hyes : x.kind = y.kind → x.n = y.n → x.s = y.s → x.l = y.l → x.o = y.o → b = true := fun h1 h2 h3 h4 h5 => hb.2 (V.ext' h1 h2 h3 h4 h5)
 have HNO := hid hno
 have HYES := hid hyes
 clear ih hlen hsz hb hno hyes
 obtain ⟨l1, o1, rfl, h1, h2⟩ := hu
 obtain ⟨l2, o2, rfl, h3, h4⟩ := hv
 obtain ⟨A1, c1, rfl, hc1, hm1⟩ := h1.shape
 obtain ⟨A2, c2, rfl, hc2, hm2⟩ := h2.shape
 obtain ⟨A3, c3, rfl, _, _⟩ := h3.shape
 obtain ⟨A4, c4, rfl, _, _⟩ := h4.shape
 unfold maxLen at hm1 hm2
 generalize x.kind = k at *
 generalize x.n = n at *
 generalize x.s = s at *
 generalize x.l = xs at *
 generalize x.o = xo at *
 generalize y.kind = k' at *
 generalize y.n = n' at *
 generalize y.s = s' at *
 generalize y.l = ys at *
 generalize y.o = yo at *
 generalize hnl : ys.length = nl at *
 generalize hno : yo.length = no at *
 have HNL := hid hnl
 have HNO2 := hid hno
 have H1 := hid h1
 have H2 := hid h2
 have H3 := hid h3
 have H4 := hid h4
 obtain ⟨hb0, hb1, hE⟩ := blk_pair w TVAL #[U8 k, .int .i64 n, .string s, .slice A1 xs.length c1, .slice A2 xo.length c2] #[U8 k', .int .i64 n', .string s', .slice A3 nl c3, .slice A4 no c4]
 have HB0 := hid hb0
 have HB1 := hid hb1
 have HE := hid hE
 clear h1 h2 h3 h4 hb0 hb1 hE hnl hno
 by_cases g1 : k = k'
 ·subst g1
  have e1 : ((k.toNat : Int) == k.toNat) = true := by simp
  have e1b : ((k.toNat : Int) != k.toNat) = false := by simp
  by_cases g2 : n = n'
  ·subst g2
   have e2 : (n == n) = true := by simp
   have e2b : (n != n) = false := by simp
   by_cases g3 : s = s'
   ·subst g3
    by_cases g4 : nl = xs.length
    ·subst g4
     have e4 : ((xs.length : Int) == xs.length) = true := by simp
     have e4b : ((xs.length : Int) != xs.length) = false := by simp
     by_cases g5 : no = xo.length
     ·subst g5
      have e5 : ((xo.length : Int) == xo.length) = true := by simp
      have e5b : ((xo.length : Int) != xo.length) = false := by simp
      go_enter Tryd.func16, Tryd.ntmps16
      go_wp2_with fail
      generalize ((w.alloc (.cells #[U8 k, .int .i64 n, .string s, .slice A1 xs.length c1, .slice A2 xo.length c2] TVAL)).alloc (.cells #[U8 k, .int .i64 n, .string s, .slice A3 xs.length c3, .slice A4 xo.length c4] TVAL)) = w0 at *
      go_loopw [5] (fun y wr => ∃ (j : Nat), j ≤ xs.length ∧ y = .int .i64 j ∧ xs.take j = ys.take j ∧ Ext w0 wr) (fun y _ => xs.length - (intOf y).toNat)
      case atStart => exact ⟨0, by omega, rfl, rfl, Keep.refl _ _⟩
      case round =>
       obtain ⟨j, hj, rfl, htk, hr⟩ := hrel
       have HTK := hid htk
       have hx := HB0.out.keep hr id
       have hy := HB1.out.keep hr id
       have x3 : wr.cell? ⟨w.heap.size, 3, none⟩ = some (.slice A1 xs.length c1) := hx.cell 3
       have x4 : wr.cell? ⟨w.heap.size, 4, none⟩ = some (.slice A2 xo.length c2) := hx.cell 4
       have y3 : wr.cell? ⟨w.heap.size + 1, 3, none⟩ = some (.slice A3 xs.length c3) := hy.cell 3
       have y4 : wr.cell? ⟨w.heap.size + 1, 4, none⟩ = some (.slice A4 xo.length c4) := hy.cell 4
       have HR := hid (HE.out.ext hr)
       have HR0 := hid hr
       clear hx hy hr htk
       by_cases hlt : j < xs.length
       ·have hlt2 : j < ys.length := by rw [HNL.out]; exact hlt
        obtain ⟨b1, f1, d1, rfl, hb1, hs1, hr1, hc1'⟩ := (H1.out.ext EVal.ok HR.out).at_ EVal.ok hlt
        obtain ⟨b2, f2, d2, rfl, hb2, hs2, hr2, hc2'⟩ := (H3.out.ext EVal.ok HR.out).at_ EVal.ok hlt2
        obtain ⟨B1, n1, z1, B2, n2, z2, rfl, _, _, hva⟩ := EVal_cells hr1
        obtain ⟨B3, n3, z3, B4, n4, z4, rfl, _, _, hvb⟩ := EVal_cells hr2
        have p0 := hc1' 0 _ rfl
        have p1 := hc1' 1 _ rfl
        have p2 := hc1' 2 _ rfl
        have p3 := hc1' 3 _ rfl
        have p4 := hc1' 4 _ rfl
        have q0 := hc2' 0 _ rfl
        have q1 := hc2' 1 _ rfl
        have q2 := hc2' 2 _ rfl
        have q3 := hc2' 3 _ rfl
        have q4 := hc2' 4 _ rfl
        have e5' : EVal.size = 5 := rfl
        simp only [e5', Nat.add_zero] at p0 p1 p2 p3 p4 q0 q1 q2 q3 q4
        obtain ⟨bj, hbj⟩ := em_bool (xs[j] = ys[j])
        have HVA := hid hva
        have HVB := hid hvb
        have HXM := hid (HLM.out xs[j] (List.getElem_mem hlt))
        have HBJ := hid hbj
        have HN1 := hid (show xs[j] = ys[j] → xs.take (j + 1) = ys.take (j + 1) from fun h => by rw [take_succ_get _ _ hlt, take_succ_get _ _ hlt2, HTK.out, h])
        have HN0 := hid (show xs[j] ≠ ys[j] → b = false from fun h => HNO.out (.inr (.inr (.inr (.inl fun e => h (by subst e; rfl))))))
        have hjX : (j : Int) < xs.length := by omega
        clear hc1' hc2' hr1 hr2 hva hvb e5' hs1 hs2 hb1 hb2 hbj HTK
        generalize xs[j] = y at *
        generalize ys[j] = y' at *
        go_wp2_with fail
        refine wp_region_grow (specOf [(10, fun v _ => v = .bool bj)]) (fun w' => Ext wr w') ?_ (stableC_ext _) (by kernel_rfl) (by kernel_rfl) (Keep.drew (Keep.refl _ _)) ?_
        ·exact stable_cons (fun v w w' h he => h) stable_nil
        iterate 10
         (try simp only [Act.put, sqa, sqb, sqc])
         refine grow_run rfl rfl rfl ?_
         apply Exists.intro
         refine ⟨fun w' hC hK => ?_, ?_⟩
         ·have x3 := sqw hC x3
          have y3 := sqw hC y3
          have p0 := sqw hC p0
          have p1 := sqw hC p1
          have p2 := sqw hC p2
          have p3 := sqw hC p3
          have p4 := sqw hC p4
          have q0 := sqw hC q0
          have q1 := sqw hC q1
          have q2 := sqw hC q2
          have q3 := sqw hC q3
          have q4 := sqw hC q4
          go_simp
          rfl
        (try simp only [Act.put, sqa, sqb, sqc])
        refine grow_eff rfl rfl rfl (fun w' hC hK => ?_) (fun v10 hv10 => ?_)
        ·unfold growAt
         go_simp
         refine grow_call ((HIH.out y y' HXM.out bj HBJ.out _ _ _ _ w' (HVA.out.ext hC) (HVB.out.ext hC)).mono ?_)
         rintro e w'' ⟨rfl, h1⟩
         exact ⟨_, rfl, h1, rfl⟩
        obtain ⟨_, _, rfl⟩ := hv10.head
        iterate 1
         (try simp only [Act.put, sqa, sqb, sqc])
         refine grow_run rfl rfl rfl ?_
         apply Exists.intro
         refine ⟨fun w' hC hK => ?_, ?_⟩
         ·go_simp
          rfl
        refine grow_nil fun w4 hC _ => ?_
        have HC4 := hid (HR0.out.ext (show Ext wr w4 from hC))
        clear hC hv10 x3 x4 y3 y4 p0 p1 p2 p3 p4 q0 q1 q2 q3 q4 HVA HVB
        cases bj with
        | true =>
         have HN := hid (HN1.out (HBJ.out.1 rfl))
         go_wp2
         exact ⟨⟨j + 1, by omega, by go_num, HN.out, HC4.out⟩, by simp [intOf]; omega⟩
        | false =>
         have HN := hid (HN0.out fun h => by have := HBJ.out.2 h; cases this)
         go_wp2
         go_ret
         exact ⟨by rw [HN.out]; first | rfl | simp, HE.out.ext HC4.out⟩
       ·obtain rfl : j = xs.length := by omega
        have HLL := hid (show xs = ys from by have := HTK.out; rwa [List.take_length, ← HNL.out, List.take_length] at this)
        clear HTK
        go_wp2_with fail
        clear x3 x4 y3 y4
        go_loopw [7] (fun y wr => ∃ (j : Nat), j ≤ xo.length ∧ y = .int .i64 j ∧ xo.take j = yo.take j ∧ Ext w0 wr) (fun y _ => xo.length - (intOf y).toNat)
        case atStart => exact ⟨0, by omega, rfl, rfl, HR0.out⟩
        case round =>
         clear HR HR0
         obtain ⟨j, hj, rfl, htk, hr⟩ := hrel
         have HTK := hid htk
         have hx := HB0.out.keep hr id
         have hy := HB1.out.keep hr id
         have x4 : wr.cell? ⟨w.heap.size, 4, none⟩ = some (.slice A2 xo.length c2) := hx.cell 4
         have y4 : wr.cell? ⟨w.heap.size + 1, 4, none⟩ = some (.slice A4 xo.length c4) := hy.cell 4
         have HR := hid (HE.out.ext hr)
         have HR0 := hid hr
         clear hx hy hr htk
         by_cases hlt : j < xo.length
         ·have hlt2 : j < yo.length := by rw [HNO2.out]; exact hlt
          obtain ⟨b1, f1, d1, rfl, hb1, hs1, hr1, hc1'⟩ := (H2.out.ext EField.ok HR.out).at_ EField.ok hlt
          obtain ⟨b2, f2, d2, rfl, hb2, hs2, hr2, hc2'⟩ := (H4.out.ext EField.ok HR.out).at_ EField.ok hlt2
          obtain ⟨lv1, ov1, rfl, ⟨D1, g1, rfl⟩, ⟨D2, g2, rfl⟩, hva⟩ := EField_cells hr1
          obtain ⟨lv2, ov2, rfl, ⟨D3, g3, rfl⟩, ⟨D4, g4, rfl⟩, hvb⟩ := EField_cells hr2
          have p0 := hc1' 0 _ rfl
          have p1 := hc1' 1 _ rfl
          have p2 := hc1' 2 _ rfl
          have p3 := hc1' 3 _ rfl
          have p4 := hc1' 4 _ rfl
          have p5 := hc1' 5 _ rfl
          have q0 := hc2' 0 _ rfl
          have q1 := hc2' 1 _ rfl
          have q2 := hc2' 2 _ rfl
          have q3 := hc2' 3 _ rfl
          have q4 := hc2' 4 _ rfl
          have q5 := hc2' 5 _ rfl
          have e5' : EField.size = 6 := rfl
          simp only [e5', Nat.add_zero] at p0 p1 p2 p3 p4 p5 q0 q1 q2 q3 q4 q5
          obtain ⟨bj, hbj⟩ := em_bool (xo[j].v = yo[j].v)
          have HVA := hid hva
          have HVB := hid hvb
          have HXM := hid (HOM.out xo[j] (List.getElem_mem hlt))
          have HBJ := hid hbj
          have HN1 := hid (show xo[j] = yo[j] → xo.take (j + 1) = yo.take (j + 1) from fun h => by rw [take_succ_get _ _ hlt, take_succ_get _ _ hlt2, HTK.out, h])
          have HN0 := hid (show xo[j] ≠ yo[j] → b = false from fun h => HNO.out (.inr (.inr (.inr (.inr fun e => h (by subst e; rfl))))))
          have hjX : (j : Int) < xo.length := by omega
          clear hc1' hc2' hr1 hr2 hva hvb e5' hs1 hs2 hb1 hb2 hbj HTK
          generalize xo[j] = y at *
          generalize yo[j] = y' at *
          go_wp2_with fail
          refine wp_region_grow (specOf [(12, fun v _ => v = .bool bj)]) (fun w' => Ext wr w') ?_ (stableC_ext _) (by kernel_rfl) (by kernel_rfl) (Keep.drew (Keep.refl _ _)) ?_
          ·exact stable_cons (fun v w w' h he => h) stable_nil
          iterate 12
           (try simp only [Act.put, sqa, sqb, sqc])
           refine grow_run rfl rfl rfl ?_
           apply Exists.intro
           refine ⟨fun w' hC hK => ?_, ?_⟩
           ·have x4 := sqw hC x4
            have y4 := sqw hC y4
            have p1 := sqw hC p1
            have p2 := sqw hC p2
            have p3 := sqw hC p3
            have p4 := sqw hC p4
            have p5 := sqw hC p5
            have q1 := sqw hC q1
            have q2 := sqw hC q2
            have q3 := sqw hC q3
            have q4 := sqw hC q4
            have q5 := sqw hC q5
            go_simp
            rfl
          (try simp only [Act.put, sqa, sqb, sqc])
          refine grow_eff rfl rfl rfl (fun w' hC hK => ?_) (fun v10 hv10 => ?_)
          ·unfold growAt
           go_simp
           refine grow_call ((HIH.out y.v y'.v HXM.out bj HBJ.out _ _ _ _ w' (HVA.out.ext hC) (HVB.out.ext hC)).mono ?_)
           rintro e w'' ⟨rfl, h1⟩
           exact ⟨_, rfl, h1, rfl⟩
          obtain ⟨_, _, rfl⟩ := hv10.head
          iterate 1
           (try simp only [Act.put, sqa, sqb, sqc])
           refine grow_run rfl rfl rfl ?_
           apply Exists.intro
           refine ⟨fun w' hC hK => ?_, ?_⟩
           ·go_simp
            rfl
          refine grow_nil fun w4 hC _ => ?_
          have hC : Ext wr w4 := hC
          have HC4 := hid (HR0.out.ext hC)
          replace x4 := sqw hC x4
          replace y4 := sqw hC y4
          replace p0 := sqw hC p0
          replace q0 := sqw hC q0
          clear hC hv10 p1 p2 p3 p4 p5 q1 q2 q3 q4 q5 HVA HVB
          cases bj with
          | false =>
           have HN := hid (HN0.out fun h => by have := HBJ.out.2 (by rw [h]); cases this)
           go_wp2_with fail
           refine wp_region_grow (specOf []) (fun w' => Ext w4 w') stable_nil (stableC_ext _) (by kernel_rfl) (by kernel_rfl) (Keep.drew (Keep.refl _ _)) ?_
           iterate 3
            (try simp only [Act.put, sqa, sqb, sqc])
            refine grow_run rfl rfl rfl ?_
            apply Exists.intro
            refine ⟨fun w' hC hK => ?_, ?_⟩
            ·go_simp
             rfl
           iterate 13
            (try simp only [Act.put, sqa, sqb, sqc])
            with_reducible refine grow_skip ?_ ?_ ?_
            ·rfl
            ·rfl
           iterate 1
            (try simp only [Act.put, sqa, sqb, sqc])
            refine grow_run rfl rfl rfl ?_
            apply Exists.intro
            refine ⟨fun w' hC hK => ?_, ?_⟩
            ·go_simp
             rfl
           refine grow_nil fun w5 hC _ => ?_
           have HC5 := hid (HC4.out.ext (show Ext w4 w5 from hC))
           clear hC x4 y4 p0 q0
           go_wp2
           go_ret
           exact ⟨by rw [HN.out]; first | rfl | simp, HE.out.ext HC5.out⟩
          | true =>
           have HV1 := hid (HBJ.out.1 rfl)
           by_cases gk : y.key = y'.key
           ·have HN := hid (HN1.out (F.ext' gk HV1.out))
            have gk2 : (y.key.toList == y'.key.toList) = true := by rw [gk]; simp
            have gk3 := gk
            clear gk
            rw [← gk3] at q0 gk2
            clear gk3
            go_wp2_with fail
            refine wp_region_grow (specOf []) (fun w' => Ext w4 w') stable_nil (stableC_ext _) (by kernel_rfl) (by kernel_rfl) (Keep.drew (Keep.refl _ _)) ?_
            iterate 17
             (try simp only [Act.put, sqa, sqb, sqc])
             refine grow_run rfl rfl rfl ?_
             apply Exists.intro
             refine ⟨fun w' hC hK => ?_, ?_⟩
             ·have x4 := sqw hC x4
              have y4 := sqw hC y4
              have p0 := sqw hC p0
              have q0 := sqw hC q0
              go_simp
              rfl
            refine grow_nil fun w5 hC _ => ?_
            have HC5 := hid (HC4.out.ext (show Ext w4 w5 from hC))
            clear hC x4 y4 p0 q0
            go_wp2
            exact ⟨⟨j + 1, by omega, by go_num, HN.out, HC5.out⟩, by simp [intOf]; omega⟩
           ·have HN := hid (HN0.out fun e => gk (by rw [e]))
            have gk2 : ¬ y.key.toList = y'.key.toList := fun e => gk (key_eq e)
            have gk3 : (y.key.toList == y'.key.toList) = false := by simpa using gk2
            clear gk
            go_wp2_with fail
            refine wp_region_grow (specOf []) (fun w' => Ext w4 w') stable_nil (stableC_ext _) (by kernel_rfl) (by kernel_rfl) (Keep.drew (Keep.refl _ _)) ?_
            iterate 17
             (try simp only [Act.put, sqa, sqb, sqc])
             refine grow_run rfl rfl rfl ?_
             apply Exists.intro
             refine ⟨fun w' hC hK => ?_, ?_⟩
             ·have x4 := sqw hC x4
              have y4 := sqw hC y4
              have p0 := sqw hC p0
              have q0 := sqw hC q0
              go_simp
              rfl
            refine grow_nil fun w5 hC _ => ?_
            have HC5 := hid (HC4.out.ext (show Ext w4 w5 from hC))
            clear hC x4 y4 p0 q0
            go_wp2
            go_ret
            exact ⟨by rw [HN.out]; first | rfl | simp, HE.out.ext HC5.out⟩
         ·obtain rfl : j = xo.length := by omega
          have HOO := hid (show xo = yo from by have := HTK.out; rwa [List.take_length, ← HNO2.out, List.take_length] at this)
          have HBB := hid (show b = true from by
           have h := HYES.out
           first | exact h trivial trivial trivial HLL.out HOO.out | exact h trivial rfl trivial HLL.out HOO.out | exact h trivial rfl rfl HLL.out HOO.out | exact h trivial HLL.out HOO.out)
          clear HTK
          go_wp2_with fail
          go_ret
          exact ⟨by rw [HBB.out]; first | rfl | simp, HR.out⟩
     ·have HB := hid (HNO.out (.inr (.inr (.inr (.inr fun e => g5 (by rw [← HNO2.out, e]))))))
      have e5 : ((xo.length : Int) == no) = false := by simp; omega
      have e5b : ((xo.length : Int) != no) = true := by simp; omega
      clear HIH HLM HOM HYES
      go_enter Tryd.func16, Tryd.ntmps16
      go_wp2
      go_ret
      exact ⟨by rw [HB.out]; first | rfl | simp, HE.out⟩
    ·have HB := hid (HNO.out (.inr (.inr (.inr (.inl fun e => g4 (by rw [← HNL.out, e]))))))
     have e4 : ((xs.length : Int) == nl) = false := by simp; omega
     have e4b : ((xs.length : Int) != nl) = true := by simp; omega
     clear HIH HLM HOM HYES
     go_enter Tryd.func16, Tryd.ntmps16
     go_wp2
     go_ret
     exact ⟨by rw [HB.out]; first | rfl | simp, HE.out⟩
   ·have HB := hid (HNO.out (.inr (.inr (.inl g3))))
    have e3 : ¬ s.toList = s'.toList := fun e => g3 (key_eq e)
    have e3b : (s.toList == s'.toList) = false := by simpa using e3
    clear HIH HLM HOM HYES
    go_enter Tryd.func16, Tryd.ntmps16
    go_wp2
    go_ret
    exact ⟨by rw [HB.out]; first | rfl | simp, HE.out⟩
  ·have HB := hid (HNO.out (.inr (.inl g2)))
   have e2 : (n == n') = false := by simpa using g2
   have e2b : (n != n') = true := by simpa using g2
   clear HIH HLM HOM HYES
   go_enter Tryd.func16, Tryd.ntmps16
   go_wp2
   go_ret
   exact ⟨by rw [HB.out]; first | rfl | simp, HE.out⟩
 ·have HB := hid (HNO.out (.inl g1))
  obtain ⟨e1, e1b⟩ := u8_ne2 g1
  clear HIH HLM HOM HYES
  go_enter Tryd.func16, Tryd.ntmps16
  go_wp2
  go_ret
  exact ⟨by rw [HB.out]; first | rfl | simp, HE.out⟩
def BegIs (p q : List St) (w : World) (e : Ending) (w' : World) : Prop := ((e = .returned (.bool true) ∧ q <+: p) ∨ (e = .returned (.bool false) ∧ ¬ q <+: p)) ∧ Ext w w'
abbrev cA : List Value := [.int .u8 2, .int .i64 1, .string ⟨#[]⟩, .slice none 0 0, .slice none 0 0]
theorem put_keys (o : List F) (j : Nat) (x : V) : (match o[j]? with | some f => o.set j (.mk f.key x) | none => o).map F.key = o.map F.key := by
 cases h : o[j]? with
 | none => rfl
 | some f =>
  simp only
  apply List.ext_getElem?
  intro i
  simp only [List.getElem?_map, List.getElem?_set]
  by_cases e : j = i
  ·subst e
   have hj := (List.getElem?_eq_some_iff.1 h).1
   rw [if_pos rfl, if_pos hj, h]
   rfl
  ·simp [e]
theorem put_kind (v : V) (loc : Loc) (x : V) : (v.put loc x).kind = v.kind := by cases v; cases loc <;> rfl
theorem put_n (v : V) (loc : Loc) (x : V) : (v.put loc x).n = v.n := by cases v; cases loc <;> rfl
theorem put_s (v : V) (loc : Loc) (x : V) : (v.put loc x).s = v.s := by cases v; cases loc <;> rfl
theorem put_l (v : V) (i : Nat) (x : V) : (v.put (.l i) x).l = v.l.set i x ∧ (v.put (.l i) x).o = v.o := by cases v; exact ⟨rfl, rfl⟩
theorem put_o (v : V) (j : Nat) (x : V) : (v.put (.o j) x).l = v.l ∧ (v.put (.o j) x).o = (match v.o[j]? with | some f => v.o.set j (.mk f.key x) | none => v.o) := by cases v; exact ⟨rfl, rfl⟩
theorem V.sizes_set : ∀ (l : List V) (i : Nat) (x : V), V.sizes (l.set i x) ≤ V.sizes l + x.size
 | [], i, x => by simp [V.sizes]
 | v :: vs, 0, x => by simp only [List.set_cons_zero, V.sizes]; omega
 | v :: vs, i + 1, x => by simp only [List.set_cons_succ, V.sizes]; have := V.sizes_set vs i x; omega
theorem F.sizes_set : ∀ (l : List F) (i : Nat) (k : ByteArray) (x : V), F.sizes (l.set i (.mk k x)) ≤ F.sizes l + x.size
 | [], i, k, x => by simp [F.sizes]
 | v :: vs, 0, k, x => by simp only [List.set_cons_zero, F.sizes, F.size]; omega
 | v :: vs, i + 1, k, x => by simp only [List.set_cons_succ, F.sizes]; have := F.sizes_set vs i k x; omega
theorem V.sizes_setm : ∀ (l : List V) (i : Nat) (x y : V), l[i]? = some y → V.sizes (l.set i x) + y.size = V.sizes l + x.size
 | [], i, x, y, h => by simp at h
 | v :: vs, 0, x, y, h => by simp only [List.getElem?_cons_zero, Option.some.injEq] at h; subst h; simp only [List.set_cons_zero, V.sizes]; omega
 | v :: vs, i + 1, x, y, h => by simp only [List.set_cons_succ, V.sizes]; have := V.sizes_setm vs i x y (by simpa using h); omega
theorem F.sizes_setm : ∀ (l : List F) (i : Nat) (k : ByteArray) (x : V) (f : F), l[i]? = some f → F.sizes (l.set i (.mk k x)) + f.v.size = F.sizes l + x.size
 | [], i, k, x, f, h => by simp at h
 | v :: vs, 0, k, x, f, h => by simp only [List.getElem?_cons_zero, Option.some.injEq] at h; subst h; simp only [List.set_cons_zero, F.sizes, F.size_eq]; simp only [F.v]; omega
 | v :: vs, i + 1, k, x, f, h => by simp only [List.set_cons_succ, F.sizes]; have := F.sizes_setm vs i k x f (by simpa using h); omega
theorem put_size {v y : V} {loc : Loc} (h : v.child? loc = some y) (x : V) : (v.put loc x).size + y.size = v.size + x.size := by
 rw [V.size_eq (v.put loc x), V.size_eq v]
 cases loc with
 | l i =>
  rw [child_l] at h
  rw [(put_l v i x).1, (put_l v i x).2]
  have := V.sizes_setm v.l i x y h
  omega
 | o j =>
  rw [child_o] at h
  cases hf : v.o[j]? with
  | none => rw [hf] at h; cases h
  | some f =>
   rw [hf] at h
   obtain rfl : f.v = y := by simpa using h
   rw [(put_o v j x).1, (put_o v j x).2, hf]
   have := F.sizes_setm v.o j f.key x f hf
   simp only
   omega
theorem putV_size : ∀ (p : List St) (v x w : V), putV v p x = some w → w.size ≤ v.size + x.size
 | [], v, x, w, h => by simp only [putV, Option.some.injEq] at h; subst h; omega
 | s :: p, v, x, w, h => by
  simp only [putV] at h
  cases h1 : stepV v s with
  | none => rw [h1] at h; cases h
  | some loc =>
   rw [h1] at h
   simp only at h
   cases h2 : v.child? loc with
   | none => rw [h2] at h; cases h
   | some y =>
    rw [h2] at h
    simp only at h
    cases h3 : putV y p x with
    | none => rw [h3] at h; cases h
    | some z =>
     rw [h3] at h
     simp only [Option.map_some, Option.some.injEq] at h
     subst h
     have h4 := put_size h2 z
     have h5 := putV_size p y x z h3
     omega
theorem put_sv {v y x : V} {loc : Loc} (hv : SV v) (hc : v.child? loc = some y) (hx : SV x) : SV (v.put loc x) := by
 have h := (SV_iff v).1 hv
 cases loc with
 | l i =>
  rw [child_l] at hc
  have hi := (List.getElem?_eq_some_iff.1 hc).1
  have hk := hv.kind4 (by omega)
  rw [SV_iff, put_kind, put_n, put_s, (put_l v i x).1, (put_l v i x).2]
  refine ⟨?_, (SVs_iff _).2 fun z hz => ?_, h.2.2⟩
  ·rcases h.1 with h1 | h1 | h1 | h1 | h1 | h1
   ·rw [hk.1] at h1; exact absurd h1.1 (by decide)
   ·rw [hk.1] at h1; exact absurd h1.1 (by decide)
   ·rw [hk.1] at h1; exact absurd h1.1 (by decide)
   ·rw [hk.1] at h1; exact absurd h1.1 (by decide)
   ·exact .inr (.inr (.inr (.inr (.inl h1))))
   ·rw [hk.1] at h1; exact absurd h1.1 (by decide)
  ·rcases List.mem_or_eq_of_mem_set hz with h1 | h1
   ·exact (SVs_iff _).1 h.2.1 z h1
   ·rw [h1]; exact hx
 | o j =>
  rw [child_o] at hc
  cases hf : v.o[j]? with
  | none => rw [hf] at hc; cases hc
  | some f =>
   have hj := (List.getElem?_eq_some_iff.1 hf).1
   have hk := hv.kind5 (by omega)
   rw [SV_iff, put_kind, put_n, put_s, (put_o v j x).1, (put_o v j x).2]
   have hkeys := put_keys v.o j x
   rw [hf] at hkeys ⊢
   simp only at hkeys ⊢
   refine ⟨?_, h.2.1, (SFs_iff _).2 fun z hz => ?_, ?_⟩
   ·rcases h.1 with h1 | h1 | h1 | h1 | h1 | h1
    ·rw [hk.1] at h1; exact absurd h1.1 (by decide)
    ·rw [hk.1] at h1; exact absurd h1.1 (by decide)
    ·rw [hk.1] at h1; exact absurd h1.1 (by decide)
    ·rw [hk.1] at h1; exact absurd h1.1 (by decide)
    ·rw [hk.1] at h1; exact absurd h1.1 (by decide)
    ·exact .inr (.inr (.inr (.inr (.inr h1))))
   ·rcases List.mem_or_eq_of_mem_set hz with h1 | h1
    ·exact (SFs_iff _).1 h.2.2.1 z h1
    ·rw [h1, SF_iff]
     exact ⟨((SF_iff _).1 ((SFs_iff _).1 h.2.2.1 f (List.mem_of_getElem? hf))).1, hx⟩
   ·have hp : ∀ o : List F, Rise o ↔ (o.map F.key).Pairwise fun a b => keyLt a b = true := fun o => by rw [rise_iff, List.pairwise_map]
    rw [hp, hkeys, ← hp]
    exact h.2.2.2
theorem putV_sv : ∀ (p : List St) (v x w : V), SV v → SV x → putV v p x = some w → SV w
 | [], v, x, w, _, hx, h => by simp only [putV, Option.some.injEq] at h; subst h; exact hx
 | s :: p, v, x, w, hv, hx, h => by
  simp only [putV] at h
  cases h1 : stepV v s with
  | none => rw [h1] at h; cases h
  | some loc =>
   rw [h1] at h
   simp only at h
   cases h2 : v.child? loc with
   | none => rw [h2] at h; cases h
   | some y =>
    rw [h2] at h
    simp only at h
    cases h3 : putV y p x with
    | none => rw [h3] at h; cases h
    | some z =>
     rw [h3] at h
     simp only [Option.map_some, Option.some.injEq] at h
     subst h
     have hy : SV y := by
      cases loc with
      | l i =>
       rw [child_l] at h2
       obtain ⟨hi, he⟩ := List.getElem?_eq_some_iff.1 h2
       rw [← he]; exact hv.childL hi
      | o j =>
       rw [child_o] at h2
       cases hf : v.o[j]? with
       | none => rw [hf] at h2; cases h2
       | some f =>
        rw [hf] at h2
        obtain rfl : f.v = y := by simpa using h2
        obtain ⟨hi, he⟩ := List.getElem?_eq_some_iff.1 hf
        rw [← he]; exact hv.childO hi
     exact put_sv hv h2 (putV_sv p y x z hy hx h3)
def PutI (w0 : World) (xb rb : Nat) (u3 u4 : Value) (v x : V) (p : List St) (w' : World) (j b off : Nat) (y : V) : Prop :=
 ∃ (f : V → V) (a c : Nat), getV v (p.take j) = some y ∧ (∀ z, putV v (p.take j) z = some (f z)) ∧ PtrT w' b off y a c ∧ Hole w' (fun q => w0.heap.size ≤ q) rb 0 b off f a c ∧ c ≤ w'.heap.size ∧ b < w'.heap.size ∧ w0.heap.size ≤ a ∧ w0.heap.size ≤ b ∧ b ≠ xb ∧ Ext w0 w' ∧
  Blk w' xb TVAL #[U8 x.kind, .int .i64 x.n, .string x.s, u3, u4] ∧ xb < a ∧ b ≠ xb + 1 ∧ xb + 1 < a ∧ Blk w' (xb + 1) TVAL #[.int .u8 0, .int .i64 0, .string ⟨#[]⟩, .slice none 0 0, .slice none 0 0]
theorem PutI.ext {w0 w' w'' : World} {xb rb : Nat} {u3 u4 : Value} {v x y : V} {p : List St} {j b off : Nat} (h : PutI w0 xb rb u3 u4 v x p w' j b off y) (he : Ext w' w'') : PutI w0 xb rb u3 u4 v x p w'' j b off y := by
 obtain ⟨f, a, c, h1, h2, h3, h4, h5, h6, h7, h8, h9, h10, h11, h12, h13, h14, h15⟩ := h
 exact ⟨f, a, c, h1, h2, h3.ext he, h4.ext he h5 h6, Nat.le_trans h5 he.size, Nat.lt_of_lt_of_le h6 he.size, h7, h8, h9, h10.ext he, h11.keep he id, h12, h13, h14, h15.keep he id⟩
theorem PutI.step {w0 w' : World} {xb rb : Nat} {u3 u4 : Value} {v x y : V} {p : List St} {j b off : Nat} (h : PutI w0 xb rb u3 u4 v x p w' j b off y) (hj : j < p.length) :
  ∃ lv ov S1 S2, At5 w' b off [U8 y.kind, .int .i64 y.n, .string y.s, lv, ov] ∧ Sl EVal w' S1 lv y.l ∧ Sl EField w' S2 ov y.o ∧ NextI (PutI w0 xb rb u3 u4 v x p) w' j lv ov y p[j] := by
 obtain ⟨f, a, c, h1, h2, h3, h4, h5, h6, h7, h8, h9, h10, h11, h12, h13, h14, h15⟩ := h
 have h3' := h3
 obtain ⟨cs, g1, g2, g3, g4⟩ := h3'
 obtain ⟨lv, ov, rfl, hl, ho⟩ := rdV_iff.1 (TV_rd (S := fun q => a ≤ q ∧ q < c) _ _ _ _ (fun q h1 h2 => ⟨h1, h2⟩) g2)
 refine ⟨lv, ov, _, _, g1, hl, ho, ?_⟩
 have hsn := getV_snoc (p.take j) v p[j]
 have hpn := fun z => putV_append (p.take j) [p[j]] v z
 rw [List.take_append_getElem hj, h1, Option.bind_some] at hsn
 rw [List.take_append_getElem hj, h1] at hpn
 simp only [Option.bind_some] at hpn
 unfold NextI
 cases hst : stepV y p[j] with
 | none => trivial
 | some loc =>
  rw [hst, Option.bind_some] at hsn
  obtain ⟨z, hz⟩ := stepV_child hst
  rw [hz] at hsn
  have hpn' : ∀ t, putV v (p.take (j + 1)) t = some (f (y.put loc t)) := fun t => by rw [hpn t, putV_one hst, Option.bind_some, h2]
  have hSx : ∀ q, a ≤ q → q < c → w0.heap.size ≤ q := fun q hq _ => by omega
  cases y with
  | mk k n s l o =>
   cases loc with
   | l i =>
    have hi := (List.getElem?_eq_some_iff.1 (show l[i]? = some z from hz)).1
    obtain ⟨g, cap, ai, bi, lv', ov', e1, e2, e3, e4, e5, e8, e6⟩ := h4.stepL h3 hSx h5 i hi
    rw [(List.getElem?_eq_some_iff.1 (show l[i]? = some z from hz)).2] at e3
    have e7 : lv' = lv := by
     have q1 := e1 3 lv' rfl
     have q2 := g1 3 lv rfl
     exact Option.some.inj (q1.symm.trans q2)
    subst e7
    obtain ⟨cs3, k1, k2, k3, k4⟩ := e3
    have k5 := TV_le _ _ _ _ k2
    obtain ⟨u, hu⟩ : ∃ u, cs3[0]? = some u := ⟨cs3[0]'(by omega), by simp⟩
    have hgl : g < w'.heap.size := lt_of_cell (k1 0 u hu)
    exact ⟨g, 0, cap, z, e2, _, ai, bi, hsn, hpn', ⟨cs3, k1, k2, k3, k4⟩, e6, by omega, hgl, by omega, by omega, by omega, h10, h11, by omega, by omega, by omega, h15⟩
   | o i =>
    cases hf : o[i]? with
    | none => rw [child_o] at hz; simp only [V.o] at hz; rw [hf] at hz; cases hz
    | some t =>
     rw [child_o] at hz; simp only [V.o] at hz; rw [hf] at hz
     obtain rfl : t.v = z := by simpa using hz
     have hi := (List.getElem?_eq_some_iff.1 hf).1
     obtain ⟨g, cap, ai, bi, lv', ov', e1, e2, e3, e4, e5, e8, e6⟩ := h4.stepO h3 hSx h5 i hi
     rw [(List.getElem?_eq_some_iff.1 hf).2] at e3
     have e7 : ov' = ov := by
      have q1 := e1 4 ov' rfl
      have q2 := g1 4 ov rfl
      exact Option.some.inj (q1.symm.trans q2)
     subst e7
     obtain ⟨cs3, k1, k2, k3, k4⟩ := e3
     have k5 := TV_le _ _ _ _ k2
     obtain ⟨u, hu⟩ : ∃ u, cs3[0]? = some u := ⟨cs3[0]'(by omega), by simp⟩
     have hgl : g < w'.heap.size := lt_of_cell (k1 0 u hu)
     exact ⟨g, 0, cap, t.v, e2, _, ai, bi, hsn, hpn', ⟨cs3, k1, k2, k3, k4⟩, e6, by omega, hgl, by omega, by omega, by omega, h10, h11, by omega, by omega, by omega, h15⟩
end Go.Proofs.YtggkidnlmaindaaDoor
