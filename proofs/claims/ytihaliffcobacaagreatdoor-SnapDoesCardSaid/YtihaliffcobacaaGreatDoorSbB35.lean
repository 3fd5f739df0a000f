/- Snap2B, RdrQ: laid together. -/
import Derived.Test.YtihaliffcobacaaGreatDoorSbB34
import Derived.Test.YtihaliffcobacaaGreatDoorSbB31
import Derived.Test.YtihaliffcobacaaGreatDoorSbB24
import Derived.Test.YtihaliffcobacaaGreatDoorSbB25
import Derived.Test.YtihaliffcobacaaGreatDoorSbB5
import Derived.Test.YtihaliffcobacaaGreatDoorSbB8
import Derived.Test.YtihaliffcobacaaGreatDoorSbB7
import Derived.Test.YtihaliffcobacaaGreatDoorSbB3
import Derived.Test.YtihaliffcobacaaGreatDoorSbB22
set_option linter.unusedSimpArgs false
set_option linter.unusedVariables false
set_option maxHeartbeats 25600000
set_option maxRecDepth 20000
namespace Go.Proofs.YtihaliffcobacaaGreatDoor
open Go.RowKit
def RSaveIs (w : World) (B : BS) (r : Nat) (cs : List DC) (s : DSt) (nm : ByteArray) (sh : Sh) (e : Ending) (w' : World) : Prop :=
 e = .returned (.int .i64 (saveR cs s nm sh).1) ∧ RdIs w' (moreB B w w') r (saveR cs s nm sh).2.1 (saveR cs s nm sh).2.2 ∧ Keep B w w'
theorem RSaveIs.no {w w' : World} {B : BS} {r : Nat} {cs : List DC} {s : DSt} {nm : ByteArray} {sh : Sh} {c : Int} (h : saveE nm sh = c) (hc : c ≠ 0) (hd : RdIs w B r cs s) (hE : Ext w w') : RSaveIs w B r cs s nm sh (.returned (.int .i64 c)) w' := by
 have hr : saveR cs s nm sh = (c, cs, s) := by unfold saveR; rw [h, if_pos hc]
 unfold RSaveIs
 rw [hr]
 exact ⟨rfl, (hd.ext hE).more fun k _ h => .inl h, hE.mono fun _ _ x => x.elim⟩
set_option maxRecDepth 100000 in
theorem rsave_ok (w0 : World) (hva : ValAny w0) (w : World) (B : BS) (r : Nat) (cs : List DC) (s : DSt) (nm : ByteArray) (sh : Sh) (hw : Wide sh.v) (h0 : Ext w0 w) (hd : RdIs w B r cs s) (hok : DOk cs s) (hg : GoodC cs) (hlow : ∀ k, B k → k < w.heap.size) (hz : nm.size ≤ 140737488355328) (S : BS) (u : Value) (hu : ShVal w S u sh) :
  Calls Tryz.prog 20 #[.pointer (some ⟨r, 0, none⟩), .string nm, u] w (RSaveIs w B r cs s nm sh) := by
 obtain ⟨sn, th, sv⟩ := sh
 simp only at hw
 obtain ⟨a0, a1, a2, a3, a4, rfl, hv⟩ := hu
 simp only at hv ⊢
 obtain ⟨lv, ov, e1, hl, ho⟩ := hv
 obtain ⟨A1, c1, rfl, _⟩ := hl.shape
 obtain ⟨A2, c2, rfl, _⟩ := ho.shape
 simp only [Value.agg.injEq, Array.mk.injEq, List.cons.injEq, and_true] at e1
 obtain ⟨rfl, rfl, rfl, rfl, rfl⟩ := e1
 have HVA := hid hva
 have HWI := hid hw
 have H0 := hid h0
 have HD := hid hd
 have HOK := hid hok
 have HGC := hid hg
 have HLOW := hid hlow
 have HV := hid (show VAt w S (.agg #[U8 sv.kind, .int .i64 sv.n, .string sv.s, .slice A1 sv.l.length c1, .slice A2 sv.o.length c2]) sv from ⟨_, _, rfl, hl, ho⟩)
 clear hva hw h0 hl ho hd hok hg hlow
 obtain ⟨W0, hW0⟩ : ∃ W0, w.alloc (.cells #[.int .i64 sn, .bool th, U8 sv.kind, .int .i64 sv.n, .string sv.s, .slice A1 sv.l.length c1, .slice A2 sv.o.length c2] TSH2) = W0 := ⟨_, rfl⟩
 have hE0 : Ext w W0 := by rw [← hW0]; exact (Keep.refl _ _).alloc _
 have hb0 : Blk W0 w.heap.size TSH2 #[.int .i64 sn, .bool th, U8 sv.kind, .int .i64 sv.n, .string sv.s, .slice A1 sv.l.length c1, .slice A2 sv.o.length c2] := by rw [← hW0]; exact Blk.new _ _ _
 have HE0 := hid hE0
 have HB0 := hid hb0
 have HW0 := hid hW0
 have hzv : VAt W0 (fun _ => True) (.agg #[.int .u8 0, .int .i64 0, .string ⟨#[]⟩, .slice none 0 0, .slice none 0 0]) zV := ⟨_, _, rfl, Sl.nil _ _, Sl.nil _ _⟩
 have HSA := hid (rsame_any sv.size sv zV (Nat.le_refl _) (isZ sv) (isZ_iff sv) _ _ S (fun _ => True) W0 (HV.out.ext hE0) hzv)
 clear hW0 hE0 hb0 hzv
 go_enter Tryz.func20, Tryz.ntmps20
 go_wp2_with fail
 change Calls _ _ _ (w.alloc (.cells #[.int .i64 sn, .bool th, U8 sv.kind, .int .i64 sv.n, .string sv.s, .slice A1 sv.l.length c1, .slice A2 sv.o.length c2] TSH2)) _
 rw [HW0.out]
 refine HSA.out.mono ?_
 rintro e wq ⟨rfl, hEq⟩
 have HEX := hid (HE0.out.ext hEq)
 obtain ⟨x0, x1, x2, x3, x4, x5, x6⟩ := blk7s (HB0.out.keep hEq id)
 clear hEq HSA HW0
 obtain ⟨zb, hzb⟩ : ∃ zb, isZ sv = zb := ⟨_, rfl⟩
 have HZB := hid hzb
 rw [hzb]
 clear hzb
 by_cases hne : nm = ⟨#[]⟩
 ·subst hne
  have HR := hid (RSaveIs.no (w := w) (w' := wq) (B := B) (r := r) (cs := cs) (s := s) (nm := ⟨#[]⟩) (sh := ⟨sn, th, sv⟩) (c := 150) (if_pos (Or.inl rfl)) (by decide) HD.out HEX.out)
  go_wp2
  go_ret
  exact HR.out
 have hneT : nm.toList.isEmpty = false := by
  cases h : nm.toList.isEmpty with
  | true => exact absurd (ba_empty h) hne
  | false => rfl
 have HN0 := hid (show nm.size ≠ 0 from fun h => hne (by obtain ⟨a⟩ := nm; congr 1; exact Array.eq_empty_of_size_eq_zero h))
 clear hne
 by_cases h20 : (20 : Int) < nm.size
 ·have HR := hid (RSaveIs.no (w := w) (w' := wq) (B := B) (r := r) (cs := cs) (s := s) (nm := nm) (sh := ⟨sn, th, sv⟩) (c := 150) (if_pos (Or.inr (Or.inl (show 20 < nm.size by omega)))) (by decide) HD.out HEX.out)
  go_wp2
  go_ret
  exact HR.out
 by_cases hs0 : sn < 0
 ·have HR := hid (RSaveIs.no (w := w) (w' := wq) (B := B) (r := r) (cs := cs) (s := s) (nm := nm) (sh := ⟨sn, th, sv⟩) (c := 150) (if_pos (Or.inr (Or.inr (Or.inl hs0)))) (by decide) HD.out HEX.out)
  go_wp2
  go_ret
  exact HR.out
 by_cases hs5 : 5000 < sn
 ·have HR := hid (RSaveIs.no (w := w) (w' := wq) (B := B) (r := r) (cs := cs) (s := s) (nm := nm) (sh := ⟨sn, th, sv⟩) (c := 150) (if_pos (Or.inr (Or.inr (Or.inr hs5)))) (by decide) HD.out HEX.out)
  go_wp2
  go_ret
  exact HR.out
 have HE1 := hid (show ¬ (nm.size = 0 ∨ 20 < nm.size ∨ sn < 0 ∨ 5000 < sn) from by have := HN0.out; omega)
 have HZ20 := hid (show nm.size ≤ 20 by omega)
 by_cases hno : th = false ∧ zb = false
 ·have HR := hid (show RSaveIs w B r cs s nm ⟨sn, th, sv⟩ (.returned (.int .i64 150)) wq from RSaveIs.no (show saveE nm ⟨sn, th, sv⟩ = 150 from by
   unfold saveE
   rw [if_neg HE1.out, if_pos ⟨hno.1, by rw [← hno.2]; exact HZB.out⟩]) (by decide) HD.out HEX.out)
  obtain ⟨rfl, rfl⟩ := hno
  go_wp2
  go_ret
  exact HR.out
 have HE2 := hid (show ¬ ((⟨sn, th, sv⟩ : Sh).there = false ∧ isZ (⟨sn, th, sv⟩ : Sh).v = false) from fun h => hno ⟨h.1, by rw [← HZB.out]; exact h.2⟩)
 have hgo : ∃ k, k = (!th && !zb) ∧ k = false := ⟨_, rfl, by cases th <;> cases zb <;> simp_all⟩
 clear hz
 obtain ⟨_, rfl, hgo⟩ := hgo
 have HRB := hid (rshb_ok w0 HVA.out ⟨sn, th, sv⟩ (by simp only; omega) (by simp only; omega) HWI.out wq (H0.out.ext HEX.out) S _ ⟨_, _, _, _, _, rfl, HV.out.ext HEX.out⟩)
 cases th with
 | false =>
  obtain rfl : zb = true := by cases zb <;> simp_all
  go_wp2_with fail
  refine HRB.out.mono ?_
  rintro e w1 ⟨b1, rfl, hb1, hE1⟩
  have HEB := hid (HEX.out.ext hE1)
  obtain ⟨bs, hbs⟩ : ∃ bs, shB ⟨sn, false, sv⟩ = bs := ⟨_, rfl⟩
  have HBS := hid hbs
  rw [hbs] at hb1
  clear hE1 hbs HRB x0 x1 x2 x3 x4 x5 x6
  by_cases hC : shC ⟨sn, false, sv⟩ = 0
  ·have hb1 := hb1 hC
   rw [hC]
   have HC := hid hC
   have HBB := hid hb1
   obtain ⟨Ab, cb, rfl, _⟩ := hb1.shape
   clear hC hb1
   have HD1 := hid (HD.out.ext HEB.out)
   go_wp2_with fail
   by_cases hl : bs.length ≤ 60000
   ·refine (ref_wrap_ok _ bs _ w1 HBB.out hl).mono ?_
    rintro e w2 ⟨v2, rfl, ho2, hE2⟩
    have HO2 := hid (ho2.sl EU8.ok)
    have HOL := hid (fun g hg => (ho2.lt (g := g) hg).1)
    have HD2 := hid (HD1.out.ext hE2)
    have HEC := hid (HEB.out.ext hE2)
    have HS0 := hid (show saveE nm ⟨sn, false, sv⟩ = 0 from by
     unfold saveE
     rw [if_neg HE1.out, if_neg (show ¬ ((⟨sn, false, sv⟩ : Sh).there = false ∧ isZ (⟨sn, false, sv⟩ : Sh).v = false) from by have := HE2.out; first | exact this | simpa using this), HC.out, if_neg (by decide), HBS.out, if_neg (by omega)])
    obtain ⟨A2', c2', rfl, _, _⟩ := ho2.shape
    clear ho2 hE2
    go_wp2_with fail
    refine (ref_append w2 B r cs s (fileT nm) _ (frm bs) _ HOK.out HGC.out.1.pw HD2.out HO2.out (fun k hk hb => by
     rcases hk with hk | hk
     ·exact hk
     ·have := HOL.out k hk; have := HLOW.out k hb; have := HEB.out.size; omega) (by unfold fileT; rw [ByteArray.size_append]; show nm.size + 5 ≤ maxLen; unfold maxLen; have := HZ20.out; omega)).mono ?_
    rintro e w3 ⟨he, hd3, hk3⟩
    have hsr : saveR cs s nm ⟨sn, false, sv⟩ = if (appR cs s (byt (fileT nm)) (frm bs)).1 ≠ 0 then ((appR cs s (byt (fileT nm)) (frm bs)).1, (appR cs s (byt (fileT nm)) (frm bs)).2, { s with left := leftC s.left })
     else ((syncR (appR cs s (byt (fileT nm)) (frm bs)).2 { s with left := leftC s.left } (byt (fileT nm))).1, (syncR (appR cs s (byt (fileT nm)) (frm bs)).2 { s with left := leftC s.left } (byt (fileT nm))).2, { s with left := leftC (leftC s.left) }) := by
     unfold saveR; rw [HS0.out, if_neg (by decide), HBS.out]
    have hkw : Keep B w w3 := (HEC.out.mono fun _ _ x => x.elim).trans hk3 fun _ _ x => x
    have HKW := hid hkw
    have HSR := hid hsr
    rcases app_is cs s (byt (fileT nm)) (frm bs) with ha | ha
    ·rw [show (fileT nm).data.toList = byt (fileT nm) from rfl, ha] at he
     subst he
     have HD3 := hid hd3
     clear hd3 hk3 hkw hsr
     go_wp2_with fail
     refine (ref_sync w3 _ r _ _ (fileT nm) (leftC_ok HOK.out.left) (HGC.out.app s (byt (fileT nm)) (frm bs)).1.pw HD3.out).mono ?_
     rintro e w4 ⟨rfl, hd4, hk4⟩
     have HR := hid (show RSaveIs w B r cs s nm ⟨sn, false, sv⟩ (.returned (.int .i64 (syncR (appR cs s (byt (fileT nm)) (frm bs)).2 { s with left := leftC s.left } (byt (fileT nm))).1)) w4 from by
      unfold RSaveIs
      rw [HSR.out, if_neg (by rw [ha]; decide)]
      refine ⟨rfl, hd4.more fun k hk h => ?_, HKW.out.trans hk4 fun k hk h => ?_⟩
      ·have := HEC.out.size; have := hk4.size; have := HKW.out.size
       rcases h with (h | h) | h
       ·exact .inl h
       ·exact .inr ⟨by omega, by omega⟩
       ·exact .inr ⟨by omega, by omega⟩
      ·rcases h with h | h
       ·exact h
       ·have := HEC.out.size; omega)
     clear hd4 hk4
     go_wp2
     go_ret
     exact HR.out
    ·rw [show (fileT nm).data.toList = byt (fileT nm) from rfl, ha] at he
     subst he
     have HR := hid (show RSaveIs w B r cs s nm ⟨sn, false, sv⟩ (.returned (.int .i64 130)) w3 from by
      unfold RSaveIs
      rw [HSR.out, if_pos (by rw [ha]; decide)]
      refine ⟨by rw [ha], hd3.more fun k hk h => ?_, HKW.out⟩
      have := HEC.out.size
      rcases h with h | h
      ·exact .inl h
      ·exact .inr ⟨by omega, by omega⟩)
     clear hd3 hk3 hkw hsr
     go_wp2
     go_ret
     exact HR.out
   ·refine (ref_wrap_long _ bs _ w1 HBB.out (by omega)).mono ?_
    rintro e w2 ⟨rfl, rfl⟩
    have HR := hid (show RSaveIs w B r cs s nm ⟨sn, false, sv⟩ (.returned (.int .i64 3)) w1 from RSaveIs.no (by
     unfold saveE
     rw [if_neg HE1.out, if_neg (show ¬ ((⟨sn, false, sv⟩ : Sh).there = false ∧ isZ (⟨sn, false, sv⟩ : Sh).v = false) from by have := HE2.out; first | exact this | simpa using this), HC.out, if_neg (by decide), HBS.out, if_pos (by omega)]) (by decide) HD.out HEB.out)
    go_wp2
    go_ret
    exact HR.out
  ·exact absurd rfl hC
 | true =>
  go_wp2_with fail
  refine HRB.out.mono ?_
  rintro e w1 ⟨b1, rfl, hb1, hE1⟩
  have HEB := hid (HEX.out.ext hE1)
  obtain ⟨bs, hbs⟩ : ∃ bs, shB ⟨sn, true, sv⟩ = bs := ⟨_, rfl⟩
  have HBS := hid hbs
  rw [hbs] at hb1
  clear hE1 hbs HRB x0 x1 x2 x3 x4 x5 x6
  by_cases hC : shC ⟨sn, true, sv⟩ = 0
  ·have hb1 := hb1 hC
   rw [hC]
   have HC := hid hC
   have HBB := hid hb1
   obtain ⟨Ab, cb, rfl, _⟩ := hb1.shape
   clear hC hb1
   have HD1 := hid (HD.out.ext HEB.out)
   go_wp2_with fail
   by_cases hl : bs.length ≤ 60000
   ·refine (ref_wrap_ok _ bs _ w1 HBB.out hl).mono ?_
    rintro e w2 ⟨v2, rfl, ho2, hE2⟩
    have HO2 := hid (ho2.sl EU8.ok)
    have HOL := hid (fun g hg => (ho2.lt (g := g) hg).1)
    have HD2 := hid (HD1.out.ext hE2)
    have HEC := hid (HEB.out.ext hE2)
    have HS0 := hid (show saveE nm ⟨sn, true, sv⟩ = 0 from by
     unfold saveE
     rw [if_neg HE1.out, if_neg (show ¬ ((⟨sn, true, sv⟩ : Sh).there = false ∧ isZ (⟨sn, true, sv⟩ : Sh).v = false) from by have := HE2.out; first | exact this | simpa using this), HC.out, if_neg (by decide), HBS.out, if_neg (by omega)])
    obtain ⟨A2', c2', rfl, _, _⟩ := ho2.shape
    clear ho2 hE2
    go_wp2_with fail
    refine (ref_append w2 B r cs s (fileT nm) _ (frm bs) _ HOK.out HGC.out.1.pw HD2.out HO2.out (fun k hk hb => by
     rcases hk with hk | hk
     ·exact hk
     ·have := HOL.out k hk; have := HLOW.out k hb; have := HEB.out.size; omega) (by unfold fileT; rw [ByteArray.size_append]; show nm.size + 5 ≤ maxLen; unfold maxLen; have := HZ20.out; omega)).mono ?_
    rintro e w3 ⟨he, hd3, hk3⟩
    have hsr : saveR cs s nm ⟨sn, true, sv⟩ = if (appR cs s (byt (fileT nm)) (frm bs)).1 ≠ 0 then ((appR cs s (byt (fileT nm)) (frm bs)).1, (appR cs s (byt (fileT nm)) (frm bs)).2, { s with left := leftC s.left })
     else ((syncR (appR cs s (byt (fileT nm)) (frm bs)).2 { s with left := leftC s.left } (byt (fileT nm))).1, (syncR (appR cs s (byt (fileT nm)) (frm bs)).2 { s with left := leftC s.left } (byt (fileT nm))).2, { s with left := leftC (leftC s.left) }) := by
     unfold saveR; rw [HS0.out, if_neg (by decide), HBS.out]
    have hkw : Keep B w w3 := (HEC.out.mono fun _ _ x => x.elim).trans hk3 fun _ _ x => x
    have HKW := hid hkw
    have HSR := hid hsr
    rcases app_is cs s (byt (fileT nm)) (frm bs) with ha | ha
    ·rw [show (fileT nm).data.toList = byt (fileT nm) from rfl, ha] at he
     subst he
     have HD3 := hid hd3
     clear hd3 hk3 hkw hsr
     go_wp2_with fail
     refine (ref_sync w3 _ r _ _ (fileT nm) (leftC_ok HOK.out.left) (HGC.out.app s (byt (fileT nm)) (frm bs)).1.pw HD3.out).mono ?_
     rintro e w4 ⟨rfl, hd4, hk4⟩
     have HR := hid (show RSaveIs w B r cs s nm ⟨sn, true, sv⟩ (.returned (.int .i64 (syncR (appR cs s (byt (fileT nm)) (frm bs)).2 { s with left := leftC s.left } (byt (fileT nm))).1)) w4 from by
      unfold RSaveIs
      rw [HSR.out, if_neg (by rw [ha]; decide)]
      refine ⟨rfl, hd4.more fun k hk h => ?_, HKW.out.trans hk4 fun k hk h => ?_⟩
      ·have := HEC.out.size; have := hk4.size; have := HKW.out.size
       rcases h with (h | h) | h
       ·exact .inl h
       ·exact .inr ⟨by omega, by omega⟩
       ·exact .inr ⟨by omega, by omega⟩
      ·rcases h with h | h
       ·exact h
       ·have := HEC.out.size; omega)
     clear hd4 hk4
     go_wp2
     go_ret
     exact HR.out
    ·rw [show (fileT nm).data.toList = byt (fileT nm) from rfl, ha] at he
     subst he
     have HR := hid (show RSaveIs w B r cs s nm ⟨sn, true, sv⟩ (.returned (.int .i64 130)) w3 from by
      unfold RSaveIs
      rw [HSR.out, if_pos (by rw [ha]; decide)]
      refine ⟨by rw [ha], hd3.more fun k hk h => ?_, HKW.out⟩
      have := HEC.out.size
      rcases h with h | h
      ·exact .inl h
      ·exact .inr ⟨by omega, by omega⟩)
     clear hd3 hk3 hkw hsr
     go_wp2
     go_ret
     exact HR.out
   ·refine (ref_wrap_long _ bs _ w1 HBB.out (by omega)).mono ?_
    rintro e w2 ⟨rfl, rfl⟩
    have HR := hid (show RSaveIs w B r cs s nm ⟨sn, true, sv⟩ (.returned (.int .i64 3)) w1 from RSaveIs.no (by
     unfold saveE
     rw [if_neg HE1.out, if_neg (show ¬ ((⟨sn, true, sv⟩ : Sh).there = false ∧ isZ (⟨sn, true, sv⟩ : Sh).v = false) from by have := HE2.out; first | exact this | simpa using this), HC.out, if_neg (by decide), HBS.out, if_pos (by omega)]) (by decide) HD.out HEB.out)
    go_wp2
    go_ret
    exact HR.out
  ·have HR := hid (show RSaveIs w B r cs s nm ⟨sn, true, sv⟩ (.returned (.int .i64 (shC ⟨sn, true, sv⟩))) w1 from RSaveIs.no (by
    unfold saveE
    rw [if_neg HE1.out, if_neg (show ¬ ((⟨sn, true, sv⟩ : Sh).there = false ∧ isZ (⟨sn, true, sv⟩ : Sh).v = false) from by have := HE2.out; first | exact this | simpa using this), if_pos hC]) hC HD.out HEB.out)
   go_wp2
   go_ret
   exact HR.out
abbrev TRRD : Nat := 174
def RrAt (w : World) (S : BS) (b : Nat) (bs : List UInt8) : Prop := ∃ v, Blk w b TRRD #[v, .bool false] ∧ BytesS w S v bs ∧ ¬ S b
theorem RrAt.keep {F : Nat → Prop} {w w' : World} {S : BS} {b : Nat} {bs : List UInt8} (h : RrAt w S b bs) (hk : Keep F w w') (hb : ¬ F b) (hS : ∀ k, S k → ¬ F k) : RrAt w' S b bs := by
 obtain ⟨v, h1, h2, h3⟩ := h
 exact ⟨v, h1.keep hk hb, Sl.keep EU8.ok h2 hk hS, h3⟩
theorem RrAt.ext {w w' : World} {S : BS} {b : Nat} {bs : List UInt8} (h : RrAt w S b bs) (hk : Ext w w') : RrAt w' S b bs := h.keep hk id fun _ _ x => x
theorem RrAt.lt {w : World} {S : BS} {b : Nat} {bs : List UInt8} (h : RrAt w S b bs) : b < w.heap.size := by obtain ⟨v, h1, _⟩ := h; exact h1.lt
theorem rnumb_ok (w : World) (S : BS) (b : Nat) (bs : List UInt8) (width : Nat) (hw : width ≤ 8) (h : RrAt w S b bs) (hk : width ≤ bs.length) :
  Calls Tryz.prog 122 #[.pointer (some ⟨b, 0, none⟩), .int .i64 width] w fun e w' => e = .returned (.int .u64 (deN (bs.take width) : Nat)) ∧ RrAt w' S b (bs.drop width) ∧ Keep (· = b) w w' := by
 obtain ⟨v, hb, hv, hS⟩ := h
 obtain ⟨A, c, rfl, hlc, hcm⟩ := hv.shape
 obtain ⟨A2, g1, g2⟩ := tail_fact (P := Tryz.prog) EU8.ok ty_u8 hv (a := (width : Int)) (lo := width) rfl hk
 have x0 := hb.cell 0
 have z0 := hb.frozen 0
 simp only [List.getElem?_toArray, List.getElem?_cons_zero] at x0
 obtain ⟨n, hn⟩ : ∃ n, bs.length = n := ⟨_, rfl⟩
 have HN := hid hn
 have HB := hid hb
 have HV := hid hv
 have HG2 := hid g2
 rw [hn] at x0 g1 hk HB HV hlc
 have hwX : (width : Int) ≤ 8 := by omega
 have hkN : ¬ (n : Int) < width := by omega
 have hkX : (width : Int) ≤ n := by omega
 clear hb hv hn hcm g2
 go_enter Tryz.func122, Tryz.ntmps122
 go_wp2_with fail
 go_loop [5, 6] (fun s i => ∃ k : Nat, k ≤ width ∧ i = .int .i64 k ∧ s = .int .u64 (deN (bs.take k) : Nat)) (fun _ i => width - (intOf i).toNat)
 case atStart => exact ⟨0, by omega, rfl, rfl⟩
 case round =>
  obtain ⟨k, hk2, rfl, rfl⟩ := hrel
  by_cases hlt : k < width
  ·have hkl : k < bs.length := by have := HN.out; omega
   obtain ⟨b1, off, rfl, hb1, hsz, hc⟩ := bytesS_at (HN.out ▸ HV.out) hkl
   have hlk := deN_lt (bs.take k)
   have hlk2 : (bs.take k).length = k := by rw [List.length_take]; omega
   rw [hlk2] at hlk
   have hx := (bs[k]'hkl).toNat_lt
   have hs := take_succ_get bs k hkl
   generalize bs[k]'hkl = x at *
   have HS := hid (show deN (bs.take (k + 1)) = deN (bs.take k) * 256 + x.toNat from by rw [hs, deN_snoc]; omega)
   clear hs hlk2
   have hm : deN (bs.take k) < 72057594037927936 := by
    have : (256 : Nat) ^ k ≤ 256 ^ 7 := Nat.pow_le_pow_right (by omega) (by omega)
    omega
   generalize deN (bs.take k) = m at *
   clear hlk
   have ho : bits .or .u64 ((m : Int) * 256) (x.toNat : Int) = ((m * 256 + x.toNat : Nat) : Int) := by
    rw [show ((m : Int) * 256) = ((m * 256 : Nat) : Int) from by omega, u64_or_nat _ _ (by omega) (by omega)]
    congr 1
    have := Nat.shiftLeft_add_eq_or_of_lt (b := x.toNat) (i := 8) hx m
    rw [Nat.shiftLeft_eq] at this
    exact this.symm
   have HO := hid ho
   have hjX : (k : Int) < width := by omega
   have hjN : (k : Int) < n := by omega
   clear ho hkl
   go_wp2
   exact ⟨⟨k + 1, by omega, by go_num, by rw [HO.out, HS.out]⟩, by simp [intOf]; omega⟩
  ·obtain rfl : k = width := by omega
   go_wp2
   go_ret
   have hk1 : Keep (· = b) w (w.setCell ⟨b, 0, none⟩ (.slice A2 (n - k) (c - k))) := (Keep.refl _ _).set1 0 _
   have hne : ∀ q, S q → ¬ q = b := fun q hq e => hS (e ▸ hq)
   have h2 := Sl.keep EU8.ok HG2.out hk1 hne
   rw [HN.out] at h2
   exact ⟨rfl, ⟨_, by simpa using HB.out.set_ 0 (.slice A2 (n - k) (c - k)), h2, hS⟩, hk1⟩
theorem rmany_ok (w : World) (S : BS) (b : Nat) (bs : List UInt8) (width : Nat) (hw : width ≤ 8) (h : RrAt w S b bs) (hk : width ≤ bs.length) (hm : deN (bs.take width) ≤ (bs.drop width).length) :
  Calls Tryz.prog 124 #[.pointer (some ⟨b, 0, none⟩), .int .i64 width] w fun e w' => e = .returned (.int .i64 (deN (bs.take width) : Nat)) ∧ RrAt w' S b (bs.drop width) ∧ Keep (· = b) w w' := by
 have HM := hid hm
 have H1 := hid (rnumb_ok w S b bs width hw h hk)
 clear h hk hw hm
 go_enter Tryz.func124, Tryz.ntmps124
 go_wp2_with fail
 refine H1.out.mono ?_
 rintro e w1 ⟨rfl, hr, hk1⟩
 have HR := hid (And.intro hr hk1)
 obtain ⟨v, hb, hv, _⟩ := hr
 obtain ⟨A, c, rfl, hlc, hcm⟩ := hv.shape
 have hm := HM.out
 obtain ⟨m, hmm⟩ : ∃ m, deN (bs.take width) = m := ⟨_, rfl⟩
 have HMM := hid hmm
 rw [hmm] at hm ⊢
 clear hmm
 have x0 := hb.cell 0
 simp only [List.getElem?_toArray, List.getElem?_cons_zero] at x0
 obtain ⟨l, hl⟩ : ∃ l, (bs.drop width).length = l := ⟨_, rfl⟩
 rw [hl] at x0 hm hlc
 unfold maxLen at hcm
 have h1X : ¬ (l : Int) < m := by omega
 have h2X : (m : Int) ≤ 9223372036854775807 := by omega
 have h3X : (l : Int) ≤ 9223372036854775807 := by omega
 clear hb hv hl hk1 hlc hcm hm
 go_wp2
 go_ret
 rw [HMM.out]
 exact ⟨rfl, HR.out.1, HR.out.2⟩
theorem rtxt_ok (w : World) (S : BS) (b : Nat) (bs : List UInt8) (h : RrAt w S b bs) (hk : 4 ≤ bs.length) (hm : deN (bs.take 4) ≤ (bs.drop 4).length) :
  Calls Tryz.prog 123 #[.pointer (some ⟨b, 0, none⟩)] w fun e w' => e = .returned (.string (textOf ((bs.drop 4).take (deN (bs.take 4))))) ∧ RrAt w' S b ((bs.drop 4).drop (deN (bs.take 4))) ∧ Keep (· = b) w w' := by
 have HM := hid hm
 have H1 := hid (rmany_ok w S b bs 4 (by decide) h hk hm)
 clear h hk hm
 go_enter Tryz.func123, Tryz.ntmps123
 go_wp2_with fail
 refine H1.out.mono ?_
 rintro e w1 ⟨rfl, hr, hk1⟩
 have HK1 := hid hk1
 obtain ⟨v, hb, hv, hS⟩ := hr
 obtain ⟨A, c, rfl, hlc, hcm⟩ := hv.shape
 have hm := HM.out
 obtain ⟨m, hmm⟩ : ∃ m, deN (bs.take 4) = m := ⟨_, rfl⟩
 have HMM := hid hmm
 rw [hmm] at hm ⊢
 clear hmm
 obtain ⟨f1, f2⟩ := front_fact (P := Tryz.prog) EU8.ok ty_u8 hv (b := (m : Int)) (hi := m) rfl hm
 obtain ⟨A2, g1, g2⟩ := tail_fact (P := Tryz.prog) EU8.ok ty_u8 hv (a := (m : Int)) (lo := m) rfl hm
 have hcv := convert_bytesS f2
 have x0 := hb.cell 0
 have z0 := hb.frozen 0
 simp only [List.getElem?_toArray, List.getElem?_cons_zero] at x0
 obtain ⟨r, hrr⟩ : ∃ r, bs.drop 4 = r := ⟨_, rfl⟩
 rw [hrr] at hb hv f1 f2 g1 g2 hcv x0 hm hlc
 have HRR := hid hrr
 clear hrr
 obtain ⟨l, hl⟩ : ∃ l, r.length = l := ⟨_, rfl⟩
 have HL := hid hl
 have HB := hid hb
 have HG2 := hid g2
 rw [hl] at x0 f1 g1 hm hlc HB
 have hmX : (m : Int) ≤ l := by omega
 clear hb hv hl hk1 hcm f2 g2 HM H1
 go_wp2
 go_ret
 have hk2 : Keep (· = b) w1 (w1.setCell ⟨b, 0, none⟩ (.slice A2 (l - m) (c - m))) := (Keep.refl _ _).set1 0 _
 have hne : ∀ q, S q → ¬ q = b := fun q hq e => hS (e ▸ hq)
 have h2 := Sl.keep EU8.ok HG2.out hk2 hne
 rw [HL.out] at h2
 rw [HMM.out, HRR.out]
 exact ⟨rfl, ⟨_, by simpa using HB.out.set_ 0 (.slice A2 (l - m) (c - m)), h2, hS⟩, HK1.out.trans hk2 fun _ _ e => e⟩
end Go.Proofs.YtihaliffcobacaaGreatDoor
