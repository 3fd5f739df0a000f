/- SnapB, SnapE, CloneVal, CloneField, ValCopy, LawKnown1, SnapR, SnapS, DiskO: laid together. -/
import Derived.Test.YtihaliffcobacaaGreatDoorSaB19
import Derived.Test.YtihaliffcobacaaGreatDoorSaB17
import Derived.Test.YtihaliffcobacaaGreatDoorSaB24
import Derived.Test.YtihaliffcobacaaGreatDoorSaB21
import Derived.Test.YtihaliffcobacaaGreatDoorSaB2
import Derived.Test.YtihaliffcobacaaGreatDoorSaB9
import Derived.Test.YtihaliffcobacaaGreatDoorSaB4
import Derived.Test.YtihaliffcobacaaGreatDoorSaB5
import Derived.Test.YtihaliffcobacaaGreatDoorSaB11
import Derived.Test.YtihaliffcobacaaGreatDoorSaB7
import Derived.Test.YtihaliffcobacaaGreatDoorSaB18
set_option linter.unusedSimpArgs false
set_option linter.unusedVariables false
set_option maxHeartbeats 25600000
set_option maxRecDepth 20000
namespace Go.Proofs.YtihaliffcobacaaGreatDoor
open Go.RowKit
def SaveIs (w : World) (B : BS) (d : Nat) (cs : List DC) (s : DSt) (nm : ByteArray) (sh : Sh) (e : Ending) (w' : World) : Prop :=
 e = .returned (.int .u16 (saveR cs s nm sh).1) ∧ DiskIs w' (moreB B w w') d (saveR cs s nm sh).2.1 (saveR cs s nm sh).2.2 ∧ Keep B w w'
theorem SaveIs.no {w w' : World} {B : BS} {d : Nat} {cs : List DC} {s : DSt} {nm : ByteArray} {sh : Sh} {c : Int} (h : saveE nm sh = c) (hc : c ≠ 0) (hd : DiskIs w B d cs s) (hE : Ext w w') : SaveIs w B d cs s nm sh (.returned (.int .u16 c)) w' := by
 have hr : saveR cs s nm sh = (c, cs, s) := by unfold saveR; rw [h, if_pos hc]
 unfold SaveIs
 rw [hr]
 exact ⟨rfl, (hd.ext hE).more fun k _ h => .inl h, hE.mono fun _ _ x => x.elim⟩
theorem shC_is (s : Sh) : shC s = 0 ∨ shC s = 1 ∨ shC s = 3 := by
 unfold shC valC
 by_cases h1 : s.there = true
 ·rw [if_pos h1]
  by_cases h2 : lightB s.v = true
  ·rw [if_pos h2]
   by_cases h3 : (encV s.v).length > 60000
   ·rw [if_pos h3]; exact .inr (.inr rfl)
   ·rw [if_neg h3]; exact .inl rfl
  ·rw [if_neg h2]; exact .inr (.inl rfl)
 ·rw [if_neg h1]; exact .inl rfl
theorem app_is (cs : List DC) (s : DSt) (f b : List UInt8) : (appR cs s f b).1 = 0 ∨ (appR cs s f b).1 = 130 := by
 unfold appR
 split
 ·exact .inr rfl
 ·split
  ·exact .inl rfl
  ·split
   ·exact .inl rfl
   ·exact .inr rfl
set_option maxRecDepth 100000 in
theorem save_ok (w0 : World) (hva : ValAny w0) (w : World) (B : BS) (d : Nat) (cs : List DC) (s : DSt) (nm : ByteArray) (sh : Sh) (hw : Wide sh.v) (h0 : Ext w0 w) (hd : DiskIs w B d cs s) (hz : nm.size ≤ 140737488355328) (S : BS) (u : Value) (hu : ShVal w S u sh) :
  Calls Tryz.prog 10 #[.pointer (some ⟨d, 0, none⟩), .string nm, u] w (SaveIs w B d cs s nm sh) := by
 obtain ⟨sn, th, sv⟩ := sh
 simp only at hw
 obtain ⟨a0, a1, a2, a3, a4, rfl, hv⟩ := hu
 simp only at hv ⊢
 obtain ⟨lv, ov, e1, hl, ho⟩ := hv
 obtain ⟨A1, c1, rfl, _⟩ := hl.shape
 obtain ⟨A2, c2, rfl, _⟩ := ho.shape
 simp only [Value.agg.injEq, Array.mk.injEq, List.cons.injEq, and_true] at e1
 obtain ⟨rfl, rfl, rfl, rfl, rfl⟩ := e1
 have HVA := hid hva
 have HWI := hid hw
 have H0 := hid h0
 have HD := hid hd
 have HV := hid (show VAt w S (.agg #[U8 sv.kind, .int .i64 sv.n, .string sv.s, .slice A1 sv.l.length c1, .slice A2 sv.o.length c2]) sv from ⟨_, _, rfl, hl, ho⟩)
 clear hva hw h0 hl ho hd
 obtain ⟨W0, hW0⟩ : ∃ W0, w.alloc (.cells #[.int .i64 sn, .bool th, U8 sv.kind, .int .i64 sv.n, .string sv.s, .slice A1 sv.l.length c1, .slice A2 sv.o.length c2] TSHOT) = W0 := ⟨_, rfl⟩
 have hE0 : Ext w W0 := by rw [← hW0]; exact (Keep.refl _ _).alloc _
 have hb0 : Blk W0 w.heap.size TSHOT #[.int .i64 sn, .bool th, U8 sv.kind, .int .i64 sv.n, .string sv.s, .slice A1 sv.l.length c1, .slice A2 sv.o.length c2] := by rw [← hW0]; exact Blk.new _ _ _
 have HE0 := hid hE0
 have HB0 := hid hb0
 have HW0 := hid hW0
 clear hW0 hE0 hb0
 by_cases hne : nm = ⟨#[]⟩
 ·subst hne
  have HR := hid (SaveIs.no (w := w) (w' := W0) (B := B) (d := d) (cs := cs) (s := s) (nm := ⟨#[]⟩) (sh := ⟨sn, th, sv⟩) (c := 150) (if_pos (Or.inl rfl)) (by decide) HD.out HE0.out)
  go_enter Tryz.func10, Tryz.ntmps10
  go_wp2
  change bodyPost _ _ _ _ _ (w.alloc (.cells #[.int .i64 sn, .bool th, U8 sv.kind, .int .i64 sv.n, .string sv.s, .slice A1 sv.l.length c1, .slice A2 sv.o.length c2] TSHOT))
  rw [HW0.out]
  go_ret
  exact HR.out
 have hneT : nm.toList.isEmpty = false := by
  cases h : nm.toList.isEmpty with
  | true => exact absurd (ba_empty h) hne
  | false => rfl
 have HN0 := hid (show nm.size ≠ 0 from fun h => hne (by obtain ⟨a⟩ := nm; congr 1; exact Array.eq_empty_of_size_eq_zero h))
 clear hne
 by_cases h20 : (20 : Int) < nm.size
 ·have HR := hid (SaveIs.no (w := w) (w' := W0) (B := B) (d := d) (cs := cs) (s := s) (nm := nm) (sh := ⟨sn, th, sv⟩) (c := 150) (if_pos (Or.inr (Or.inl (show 20 < nm.size by omega)))) (by decide) HD.out HE0.out)
  go_enter Tryz.func10, Tryz.ntmps10
  go_wp2
  change bodyPost _ _ _ _ _ (w.alloc (.cells #[.int .i64 sn, .bool th, U8 sv.kind, .int .i64 sv.n, .string sv.s, .slice A1 sv.l.length c1, .slice A2 sv.o.length c2] TSHOT))
  rw [HW0.out]
  go_ret
  exact HR.out
 by_cases hs0 : sn < 0
 ·have HR := hid (SaveIs.no (w := w) (w' := W0) (B := B) (d := d) (cs := cs) (s := s) (nm := nm) (sh := ⟨sn, th, sv⟩) (c := 150) (if_pos (Or.inr (Or.inr (Or.inl hs0)))) (by decide) HD.out HE0.out)
  go_enter Tryz.func10, Tryz.ntmps10
  go_wp2
  change bodyPost _ _ _ _ _ (w.alloc (.cells #[.int .i64 sn, .bool th, U8 sv.kind, .int .i64 sv.n, .string sv.s, .slice A1 sv.l.length c1, .slice A2 sv.o.length c2] TSHOT))
  rw [HW0.out]
  go_ret
  exact HR.out
 by_cases hs5 : 5000 < sn
 ·have HR := hid (SaveIs.no (w := w) (w' := W0) (B := B) (d := d) (cs := cs) (s := s) (nm := nm) (sh := ⟨sn, th, sv⟩) (c := 150) (if_pos (Or.inr (Or.inr (Or.inr hs5)))) (by decide) HD.out HE0.out)
  go_enter Tryz.func10, Tryz.ntmps10
  go_wp2
  change bodyPost _ _ _ _ _ (w.alloc (.cells #[.int .i64 sn, .bool th, U8 sv.kind, .int .i64 sv.n, .string sv.s, .slice A1 sv.l.length c1, .slice A2 sv.o.length c2] TSHOT))
  rw [HW0.out]
  go_ret
  exact HR.out
 have HE1 := hid (show ¬ (nm.size = 0 ∨ 20 < nm.size ∨ sn < 0 ∨ 5000 < sn) from by have := HN0.out; omega)
 cases hth : th with
 | false =>
  subst hth
  have hzv : VAt W0 (fun _ => True) (.agg #[.int .u8 0, .int .i64 0, .string ⟨#[]⟩, .slice none 0 0, .slice none 0 0]) zV := ⟨_, _, rfl, Sl.nil _ _, Sl.nil _ _⟩
  have HSA := hid (same_any sv.size sv (Nat.le_refl _) zV (isZ sv) (isZ_iff sv) _ _ S (fun _ => True) W0 (HV.out.ext HE0.out) hzv)
  clear hzv
  go_enter Tryz.func10, Tryz.ntmps10
  go_wp2_with fail
  change Calls _ _ _ (w.alloc (.cells #[.int .i64 sn, .bool false, U8 sv.kind, .int .i64 sv.n, .string sv.s, .slice A1 sv.l.length c1, .slice A2 sv.o.length c2] TSHOT)) _
  rw [HW0.out]
  refine HSA.out.mono ?_
  rintro e wq ⟨rfl, hEq⟩
  have HEX := hid (HE0.out.ext hEq)
  have hbq := HB0.out.keep hEq id
  have x0 := hbq.cell 0
  have x1 := hbq.cell 1
  have x2 := hbq.cell 2
  have x3 := hbq.cell 3
  have x4 := hbq.cell 4
  have x5 := hbq.cell 5
  have x6 := hbq.cell 6
  simp only [List.getElem?_toArray, List.getElem?_cons_succ, List.getElem?_cons_zero] at x0 x1 x2 x3 x4 x5 x6
  clear hEq hbq
  obtain ⟨zb, hzb⟩ : ∃ zb, isZ sv = zb := ⟨_, rfl⟩
  have HZB := hid hzb
  rw [hzb]
  clear hzb
  cases zb with
  | false =>
   have HR := hid (show SaveIs w B d cs s nm ⟨sn, false, sv⟩ (.returned (.int .u16 150)) wq from SaveIs.no (show saveE nm ⟨sn, false, sv⟩ = 150 from by
    unfold saveE
    rw [if_neg HE1.out, if_pos ⟨rfl, HZB.out⟩]) (by decide) HD.out HEX.out)
   go_wp2
   go_ret
   exact HR.out
  | true =>
  go_wp2_with fail
  change Calls _ _ _ wq _
  rw [(show wq = wq from rfl)]
  have HZ20 := hid (show nm.size ≤ 20 by omega)
  clear hz hneT
  have HE2 := hid (show ¬ ((⟨sn, false, sv⟩ : Sh).there = false ∧ isZ (⟨sn, false, sv⟩ : Sh).v = false) from fun h => absurd h.2 (by rw [show isZ (⟨sn, false, sv⟩ : Sh).v = isZ sv from rfl, HZB.out]; decide))
  refine (shb_ok w0 HVA.out ⟨sn, false, sv⟩ hs0 hs5 HWI.out wq (H0.out.ext HEX.out) S _ ⟨_, _, _, _, _, rfl, HV.out.ext HEX.out⟩).mono ?_
  rintro e w1 ⟨b1, rfl, hb1, hE1⟩
  have HBB := hid hb1
  have HEB := hid (HEX.out.ext hE1)
  obtain ⟨Ab, cb, rfl, _⟩ := hb1.shape
  obtain ⟨bs, hbs⟩ : ∃ bs, shB ⟨sn, false, sv⟩ = bs := ⟨_, rfl⟩
  have HBS := hid hbs
  rw [hbs] at HBB ⊢
  clear hb1 hE1 hbs
  have HD1 := hid (HD.out.ext HEB.out)
  rcases shC_is ⟨sn, false, sv⟩ with hC | hC | hC
  ·rw [hC]
   have HC := hid hC
   clear hC
   go_wp2_with fail
   by_cases hl : bs.length ≤ 60000
   ·refine (wrap_ok _ bs _ w1 HBB.out hl).mono ?_
    rintro e w2 ⟨v2, rfl, ho2, hE2⟩
    have HO2 := hid (ho2.sl EU8.ok)
    have HD2 := hid (HD1.out.ext hE2)
    have HEC := hid (HEB.out.ext hE2)
    have HS0 := hid (show saveE nm ⟨sn, false, sv⟩ = 0 from by
     unfold saveE
     rw [if_neg HE1.out, if_neg (show ¬ ((⟨sn, false, sv⟩ : Sh).there = false ∧ isZ (⟨sn, false, sv⟩ : Sh).v = false) from by have := HE2.out; simpa using this), HC.out, if_neg (by decide), HBS.out, if_neg (by omega)])
    obtain ⟨A2', c2', rfl, _, _⟩ := ho2.shape
    clear ho2 hE2
    go_wp2_with fail
    refine (disk_append w2 B d cs s (fileT nm) _ (frm bs) _ HD2.out HO2.out (by unfold fileT; rw [ByteArray.size_append]; show nm.size + 5 ≤ maxLen; unfold maxLen; have := HZ20.out; omega)).mono ?_
    rintro e w3 ⟨he, hd3, hk3⟩
    have hsr : saveR cs s nm ⟨sn, false, sv⟩ = if (appR cs s (byt (fileT nm)) (frm bs)).1 ≠ 0 then ((appR cs s (byt (fileT nm)) (frm bs)).1, (appR cs s (byt (fileT nm)) (frm bs)).2, { s with left := leftC s.left })
     else ((syncR (appR cs s (byt (fileT nm)) (frm bs)).2 { s with left := leftC s.left } (byt (fileT nm))).1, (syncR (appR cs s (byt (fileT nm)) (frm bs)).2 { s with left := leftC s.left } (byt (fileT nm))).2, { s with left := leftC (leftC s.left) }) := by
     unfold saveR; rw [HS0.out, if_neg (by decide), HBS.out]
    have hkw : Keep B w w3 := (HEC.out.mono fun _ _ x => x.elim).trans hk3 fun _ _ x => x
    have HKW := hid hkw
    have HSR := hid hsr
    rcases app_is cs s (byt (fileT nm)) (frm bs) with ha | ha
    ·rw [show (fileT nm).data.toList = byt (fileT nm) from rfl, ha] at he
     subst he
     have HD3 := hid hd3
     clear hd3 hk3 hkw hsr
     go_wp2_with fail
     refine (disk_sync w3 _ d _ _ (fileT nm) HD3.out (by unfold fileT; rw [ByteArray.size_append]; show nm.size + 5 ≤ maxLen; unfold maxLen; have := HZ20.out; omega)).mono ?_
     rintro e w4 ⟨rfl, hd4, hk4⟩
     have HR := hid (show SaveIs w B d cs s nm ⟨sn, false, sv⟩ (.returned (.int .u16 (syncR (appR cs s (byt (fileT nm)) (frm bs)).2 { s with left := leftC s.left } (byt (fileT nm))).1)) w4 from by
      unfold SaveIs
      rw [HSR.out, if_neg (by rw [ha]; decide)]
      refine ⟨rfl, hd4.more fun k hk h => ?_, HKW.out.trans hk4 fun k hk h => ?_⟩
      ·rcases h with h | h
       ·exact .inl h
       ·have := HEC.out.size; have := hk4.size; exact .inr ⟨by omega, by omega⟩
      ·rcases h with h | h
       ·exact h
       ·have := HEC.out.size; omega)
     clear hd4 hk4
     go_wp2
     go_ret
     exact HR.out
    ·rw [show (fileT nm).data.toList = byt (fileT nm) from rfl, ha] at he
     subst he
     have HR := hid (show SaveIs w B d cs s nm ⟨sn, false, sv⟩ (.returned (.int .u16 130)) w3 from by
      unfold SaveIs
      rw [HSR.out, if_pos (by rw [ha]; decide)]
      refine ⟨by rw [ha], hd3.more fun k hk h => ?_, HKW.out⟩
      rcases h with h | h
      ·exact .inl h
      ·have := HEC.out.size; exact .inr ⟨by omega, by omega⟩)
     clear hd3 hk3 hkw hsr
     go_wp2
     go_ret
     exact HR.out
   ·refine (wrap_long _ bs _ w1 HBB.out (by omega)).mono ?_
    rintro e w2 ⟨rfl, rfl⟩
    have HR := hid (show SaveIs w B d cs s nm ⟨sn, false, sv⟩ (.returned (.int .u16 3)) w1 from SaveIs.no (show saveE nm ⟨sn, false, sv⟩ = 3 from by
     unfold saveE
     rw [if_neg HE1.out, if_neg (show ¬ ((⟨sn, false, sv⟩ : Sh).there = false ∧ isZ (⟨sn, false, sv⟩ : Sh).v = false) from by have := HE2.out; simpa using this), HC.out, if_neg (by decide), HBS.out, if_pos (by omega)]) (by decide) HD.out HEB.out)
    go_wp2
    go_ret
    exact HR.out
  ·rw [hC]
   have HR := hid (show SaveIs w B d cs s nm ⟨sn, false, sv⟩ (.returned (.int .u16 1)) w1 from SaveIs.no (by unfold saveE; rw [if_neg HE1.out, if_neg (show ¬ ((⟨sn, false, sv⟩ : Sh).there = false ∧ isZ (⟨sn, false, sv⟩ : Sh).v = false) from by have := HE2.out; simpa using this), hC, if_pos (by decide)]) (by decide) HD.out HEB.out)
   clear hC
   go_wp2
   go_ret
   exact HR.out
  ·rw [hC]
   have HR := hid (show SaveIs w B d cs s nm ⟨sn, false, sv⟩ (.returned (.int .u16 3)) w1 from SaveIs.no (by unfold saveE; rw [if_neg HE1.out, if_neg (show ¬ ((⟨sn, false, sv⟩ : Sh).there = false ∧ isZ (⟨sn, false, sv⟩ : Sh).v = false) from by have := HE2.out; simpa using this), hC, if_pos (by decide)]) (by decide) HD.out HEB.out)
   clear hC
   go_wp2
   go_ret
   exact HR.out
 | true =>
  subst hth
  go_enter Tryz.func10, Tryz.ntmps10
  go_wp2_with fail
  have HEX := HE0
  change Calls _ _ _ (w.alloc (.cells #[.int .i64 sn, .bool true, U8 sv.kind, .int .i64 sv.n, .string sv.s, .slice A1 sv.l.length c1, .slice A2 sv.o.length c2] TSHOT)) _
  rw [HW0.out]
  have HZ20 := hid (show nm.size ≤ 20 by omega)
  clear hz hneT
  have HE2 := hid (show ¬ ((⟨sn, true, sv⟩ : Sh).there = false ∧ isZ (⟨sn, true, sv⟩ : Sh).v = false) from fun h => absurd h.1 (by simp))
  refine (shb_ok w0 HVA.out ⟨sn, true, sv⟩ hs0 hs5 HWI.out W0 (H0.out.ext HEX.out) S _ ⟨_, _, _, _, _, rfl, HV.out.ext HEX.out⟩).mono ?_
  rintro e w1 ⟨b1, rfl, hb1, hE1⟩
  have HBB := hid hb1
  have HEB := hid (HEX.out.ext hE1)
  obtain ⟨Ab, cb, rfl, _⟩ := hb1.shape
  obtain ⟨bs, hbs⟩ : ∃ bs, shB ⟨sn, true, sv⟩ = bs := ⟨_, rfl⟩
  have HBS := hid hbs
  rw [hbs] at HBB ⊢
  clear hb1 hE1 hbs
  have HD1 := hid (HD.out.ext HEB.out)
  rcases shC_is ⟨sn, true, sv⟩ with hC | hC | hC
  ·rw [hC]
   have HC := hid hC
   clear hC
   go_wp2_with fail
   by_cases hl : bs.length ≤ 60000
   ·refine (wrap_ok _ bs _ w1 HBB.out hl).mono ?_
    rintro e w2 ⟨v2, rfl, ho2, hE2⟩
    have HO2 := hid (ho2.sl EU8.ok)
    have HD2 := hid (HD1.out.ext hE2)
    have HEC := hid (HEB.out.ext hE2)
    have HS0 := hid (show saveE nm ⟨sn, true, sv⟩ = 0 from by
     unfold saveE
     rw [if_neg HE1.out, if_neg (show ¬ ((⟨sn, true, sv⟩ : Sh).there = false ∧ isZ (⟨sn, true, sv⟩ : Sh).v = false) from by simp), HC.out, if_neg (by decide), HBS.out, if_neg (by omega)])
    obtain ⟨A2', c2', rfl, _, _⟩ := ho2.shape
    clear ho2 hE2
    go_wp2_with fail
    refine (disk_append w2 B d cs s (fileT nm) _ (frm bs) _ HD2.out HO2.out (by unfold fileT; rw [ByteArray.size_append]; show nm.size + 5 ≤ maxLen; unfold maxLen; have := HZ20.out; omega)).mono ?_
    rintro e w3 ⟨he, hd3, hk3⟩
    have hsr : saveR cs s nm ⟨sn, true, sv⟩ = if (appR cs s (byt (fileT nm)) (frm bs)).1 ≠ 0 then ((appR cs s (byt (fileT nm)) (frm bs)).1, (appR cs s (byt (fileT nm)) (frm bs)).2, { s with left := leftC s.left })
     else ((syncR (appR cs s (byt (fileT nm)) (frm bs)).2 { s with left := leftC s.left } (byt (fileT nm))).1, (syncR (appR cs s (byt (fileT nm)) (frm bs)).2 { s with left := leftC s.left } (byt (fileT nm))).2, { s with left := leftC (leftC s.left) }) := by
     unfold saveR; rw [HS0.out, if_neg (by decide), HBS.out]
    have hkw : Keep B w w3 := (HEC.out.mono fun _ _ x => x.elim).trans hk3 fun _ _ x => x
    have HKW := hid hkw
    have HSR := hid hsr
    rcases app_is cs s (byt (fileT nm)) (frm bs) with ha | ha
    ·rw [show (fileT nm).data.toList = byt (fileT nm) from rfl, ha] at he
     subst he
     have HD3 := hid hd3
     clear hd3 hk3 hkw hsr
     go_wp2_with fail
     refine (disk_sync w3 _ d _ _ (fileT nm) HD3.out (by unfold fileT; rw [ByteArray.size_append]; show nm.size + 5 ≤ maxLen; unfold maxLen; have := HZ20.out; omega)).mono ?_
     rintro e w4 ⟨rfl, hd4, hk4⟩
     have HR := hid (show SaveIs w B d cs s nm ⟨sn, true, sv⟩ (.returned (.int .u16 (syncR (appR cs s (byt (fileT nm)) (frm bs)).2 { s with left := leftC s.left } (byt (fileT nm))).1)) w4 from by
      unfold SaveIs
      rw [HSR.out, if_neg (by rw [ha]; decide)]
      refine ⟨rfl, hd4.more fun k hk h => ?_, HKW.out.trans hk4 fun k hk h => ?_⟩
      ·rcases h with h | h
       ·exact .inl h
       ·have := HEC.out.size; have := hk4.size; exact .inr ⟨by omega, by omega⟩
      ·rcases h with h | h
       ·exact h
       ·have := HEC.out.size; omega)
     clear hd4 hk4
     go_wp2
     go_ret
     exact HR.out
    ·rw [show (fileT nm).data.toList = byt (fileT nm) from rfl, ha] at he
     subst he
     have HR := hid (show SaveIs w B d cs s nm ⟨sn, true, sv⟩ (.returned (.int .u16 130)) w3 from by
      unfold SaveIs
      rw [HSR.out, if_pos (by rw [ha]; decide)]
      refine ⟨by rw [ha], hd3.more fun k hk h => ?_, HKW.out⟩
      rcases h with h | h
      ·exact .inl h
      ·have := HEC.out.size; exact .inr ⟨by omega, by omega⟩)
     clear hd3 hk3 hkw hsr
     go_wp2
     go_ret
     exact HR.out
   ·refine (wrap_long _ bs _ w1 HBB.out (by omega)).mono ?_
    rintro e w2 ⟨rfl, rfl⟩
    have HR := hid (show SaveIs w B d cs s nm ⟨sn, true, sv⟩ (.returned (.int .u16 3)) w1 from SaveIs.no (show saveE nm ⟨sn, true, sv⟩ = 3 from by
     unfold saveE
     rw [if_neg HE1.out, if_neg (show ¬ ((⟨sn, true, sv⟩ : Sh).there = false ∧ isZ (⟨sn, true, sv⟩ : Sh).v = false) from by simp), HC.out, if_neg (by decide), HBS.out, if_pos (by omega)]) (by decide) HD.out HEB.out)
    go_wp2
    go_ret
    exact HR.out
  ·rw [hC]
   have HR := hid (show SaveIs w B d cs s nm ⟨sn, true, sv⟩ (.returned (.int .u16 1)) w1 from SaveIs.no (by unfold saveE; rw [if_neg HE1.out, if_neg (show ¬ ((⟨sn, true, sv⟩ : Sh).there = false ∧ isZ (⟨sn, true, sv⟩ : Sh).v = false) from by simp), hC, if_pos (by decide)]) (by decide) HD.out HEB.out)
   clear hC
   go_wp2
   go_ret
   exact HR.out
  ·rw [hC]
   have HR := hid (show SaveIs w B d cs s nm ⟨sn, true, sv⟩ (.returned (.int .u16 3)) w1 from SaveIs.no (by unfold saveE; rw [if_neg HE1.out, if_neg (show ¬ ((⟨sn, true, sv⟩ : Sh).there = false ∧ isZ (⟨sn, true, sv⟩ : Sh).v = false) from by simp), hC, if_pos (by decide)]) (by decide) HD.out HEB.out)
   clear hC
   go_wp2
   go_ret
   exact HR.out
abbrev TREC15 : Nat := 24
def ShOf (r : Rs) (s : Sh) : Prop := s.n = r.n ∧ s.there = r.there ∧ (r.there = false → s.v = zV) ∧ (r.there = true → SVd 0 s.v ∧ s.v.size ≤ 241 ∧ NumT r.v s.v ∧ s.v.kind = kindT r.v)
def ShotIs (w : World) (r : Rs) (e : Ending) (w' : World) : Prop := ∃ u s, e = .returned u ∧ ShVal w' (fun q => w.heap.size ≤ q) u s ∧ ShOf r s ∧ Ext w w'
set_option maxRecDepth 100000 in
theorem shot_ok (r : Rs) (hr : r.raw = false) (w : World) (S : BS) (A : Option Addr) (c : Nat) (hv : Sl ETok w S (.slice A r.v.length c) r.v) :
  Calls Tryz.prog 9 #[.agg #[.int .i64 r.n, .bool r.there, .bool r.raw, .slice A r.v.length c]] w (ShotIs w r) := by
 obtain ⟨n, th, raw, ts⟩ := r
 simp only at hr hv ⊢
 subst hr
 have HV := hid hv
 clear hv
 cases th with
 | true =>
  go_enter Tryz.func9, Tryz.ntmps9
  go_wp2_with fail
  obtain ⟨W0, hW0⟩ : ∃ W0, ((w.alloc (.cells #[.int .i64 n, .bool true, .bool false, .slice A ts.length c] TREC15)).alloc (.cells #[.int .i64 0, .bool false, .int .u8 0, .int .i64 0, .string ⟨#[]⟩, .slice none 0 0, .slice none 0 0] TSHOT)).alloc (.cells #[.int .i64 n, .bool true, .int .u8 0, .int .i64 0, .string ⟨#[]⟩, .slice none 0 0, .slice none 0 0] TSHOT) = W0 := ⟨_, rfl⟩
  have hE0 : Ext w W0 := by rw [← hW0]; exact (((Keep.refl _ _).alloc _).alloc _).alloc _
  have hb1 : Blk W0 (w.heap.size + 1) TSHOT #[.int .i64 0, .bool false, .int .u8 0, .int .i64 0, .string ⟨#[]⟩, .slice none 0 0, .slice none 0 0] := by
   have := (Blk.new (w.alloc (.cells #[.int .i64 n, .bool true, .bool false, .slice A ts.length c] TREC15)) TSHOT #[.int .i64 0, .bool false, .int .u8 0, .int .i64 0, .string ⟨#[]⟩, .slice none 0 0, .slice none 0 0]).alloc (.cells #[.int .i64 n, .bool true, .int .u8 0, .int .i64 0, .string ⟨#[]⟩, .slice none 0 0, .slice none 0 0] TSHOT)
   rw [World.size_alloc] at this
   rw [← hW0]; exact this
  have hb2 : Blk W0 (w.heap.size + 1 + 1) TSHOT #[.int .i64 n, .bool true, .int .u8 0, .int .i64 0, .string ⟨#[]⟩, .slice none 0 0, .slice none 0 0] := by
   have := Blk.new ((w.alloc (.cells #[.int .i64 n, .bool true, .bool false, .slice A ts.length c] TREC15)).alloc (.cells #[.int .i64 0, .bool false, .int .u8 0, .int .i64 0, .string ⟨#[]⟩, .slice none 0 0, .slice none 0 0] TSHOT)) TSHOT #[.int .i64 n, .bool true, .int .u8 0, .int .i64 0, .string ⟨#[]⟩, .slice none 0 0, .slice none 0 0]
   rw [World.size_alloc, World.size_alloc] at this
   rw [← hW0]; exact this
  change Calls _ _ _ (((w.alloc (.cells #[.int .i64 n, .bool true, .bool false, .slice A ts.length c] TREC15)).alloc (.cells #[.int .i64 0, .bool false, .int .u8 0, .int .i64 0, .string ⟨#[]⟩, .slice none 0 0, .slice none 0 0] TSHOT)).alloc (.cells #[.int .i64 n, .bool true, .int .u8 0, .int .i64 0, .string ⟨#[]⟩, .slice none 0 0, .slice none 0 0] TSHOT)) _
  rw [hW0]
  refine (build_okN ts _ S W0 (HV.out.ext ETok.ok hE0)).mono ?_
  rintro e w1 ⟨u, x, rfl, hx1, hx2, hx3, hx4, hu, hE1⟩
  obtain ⟨lv, ov, rfl, hl1, ho1⟩ := hu
  obtain ⟨A4, c4, rfl, _⟩ := hl1.shape
  obtain ⟨A5, c5, rfl, _⟩ := ho1.shape
  have HXX := hid (And.intro hx1 (And.intro hx2 (And.intro hx3 hx4)))
  have HB1 := hid (hb1.keep hE1 id)
  have HB2 := hid (hb2.keep hE1 id)
  have HE1 := hid (hE0.ext hE1)
  have hz0 : w.heap.size + 2 < W0.heap.size := hb2.lt
  have HVX := hid (show VAt w1 (fun q => W0.heap.size ≤ q) (.agg #[U8 x.kind, .int .i64 x.n, .string x.s, .slice A4 x.l.length c4, .slice A5 x.o.length c5]) x from ⟨_, _, rfl, hl1, ho1⟩)
  obtain ⟨y0, y1, y2, y3, y4, y5, y6⟩ := blk7s HB2.out
  obtain ⟨f0, f1, f2, f3, f4, f5, f6⟩ := frz7s HB2.out
  clear hW0 hE0 hb1 hb2 hx1 hx2 hx3 hx4 hE1 hl1 ho1
  go_upto_region 6 with fail
  obtain ⟨W2, hW2⟩ : ∃ W2, ((((w1.setCell ⟨w.heap.size + 1 + 1, 2, none⟩ (U8 x.kind)).setCell ⟨w.heap.size + 1 + 1, 3, none⟩ (.int .i64 x.n)).setCell ⟨w.heap.size + 1 + 1, 4, none⟩ (.string x.s)).setCell ⟨w.heap.size + 1 + 1, 5, none⟩ (.slice A4 x.l.length c4)).setCell ⟨w.heap.size + 1 + 1, 6, none⟩ (.slice A5 x.o.length c5) = W2 := ⟨_, rfl⟩
  have hk2 : Keep (· = w.heap.size + 1 + 1) w1 W2 := by rw [← hW2]; exact (((((Keep.refl (· = w.heap.size + 1 + 1) w1).set1 2 _).set1 3 _).set1 4 _).set1 5 _).set1 6 _
  have hb3 : Blk W2 (w.heap.size + 1 + 1) TSHOT #[.int .i64 n, .bool true, U8 x.kind, .int .i64 x.n, .string x.s, .slice A4 x.l.length c4, .slice A5 x.o.length c5] := by
   rw [← hW2]
   have := ((((HB2.out.set_ 2 (U8 x.kind)).set_ 3 (.int .i64 x.n)).set_ 4 (.string x.s)).set_ 5 (.slice A4 x.l.length c4)).set_ 6 (.slice A5 x.o.length c5)
   simpa using this
  have hb4 := HB1.out.keep hk2 (by omega)
  change Code.wp _ _ _ _ (((((w1.setCell ⟨w.heap.size + 1 + 1, 2, none⟩ (U8 x.kind)).setCell ⟨w.heap.size + 1 + 1, 3, none⟩ (.int .i64 x.n)).setCell ⟨w.heap.size + 1 + 1, 4, none⟩ (.string x.s)).setCell ⟨w.heap.size + 1 + 1, 5, none⟩ (.slice A4 x.l.length c4)).setCell ⟨w.heap.size + 1 + 1, 6, none⟩ (.slice A5 x.o.length c5))
  rw [hW2]
  clear y0 y1 y2 y3 y4 y5 y6 f0 f1 f2 f3 f4 f5 f6 hW2
  obtain ⟨y0, y1, y2, y3, y4, y5, y6⟩ := blk7s hb3
  obtain ⟨r0, r1, r2, r3, r4, r5, r6⟩ := blk7s hb4
  obtain ⟨f0, f1, f2, f3, f4, f5, f6⟩ := frz7s hb4
  have HB4 := hid hb4
  have HE2 := hid (HE1.out.trans hk2 fun q hq e => by omega)
  have HV2 := hid (HVX.out.keep hk2 fun q hq e => by omega)
  clear hb3 hb4 hk2
  go_wp2
  obtain ⟨W9, hW9⟩ : ∃ W9, set7 W2 (w.heap.size + 1) (.int .i64 n) (.bool true) (U8 x.kind) (.int .i64 x.n) (.string x.s) (.slice A4 x.l.length c4) (.slice A5 x.o.length c5) = W9 := ⟨_, rfl⟩
  have hk9 : Keep (· = w.heap.size + 1) W2 W9 := by rw [← hW9]; exact set7_keep _ _ _ _ _ _ _ _ _
  have hb9 : Blk W9 (w.heap.size + 1) TSHOT #[.int .i64 n, .bool true, U8 x.kind, .int .i64 x.n, .string x.s, .slice A4 x.l.length c4, .slice A5 x.o.length c5] := by rw [← hW9]; exact set7_to HB4.out _ _ _ _ _ _ _
  have HR := hid (show ShotIs w ⟨n, true, false, ts⟩ (.returned (.agg #[.int .i64 n, .bool true, U8 x.kind, .int .i64 x.n, .string x.s, .slice A4 x.l.length c4, .slice A5 x.o.length c5])) W9 from
   ⟨_, ⟨n, true, x⟩, rfl, ⟨_, _, _, _, _, rfl, (HV2.out.keep hk9 fun q hq e => by omega).more fun q _ h => by omega⟩, ⟨rfl, rfl, fun h => (by cases h), fun _ => HXX.out⟩, HE2.out.trans hk9 fun q hq e => by omega⟩)
  obtain ⟨t0, t1, t2, t3, t4, t5, t6⟩ := blk7s hb9
  change bodyPost _ _ _ _ _ (set7 W2 (w.heap.size + 1) (.int .i64 n) (.bool true) (U8 x.kind) (.int .i64 x.n) (.string x.s) (.slice A4 x.l.length c4) (.slice A5 x.o.length c5))
  rw [hW9]
  clear hW9 hk9 hb9 y0 y1 y2 y3 y4 y5 y6 r0 r1 r2 r3 r4 r5 r6 f0 f1 f2 f3 f4 f5 f6
  refine bodyPost_ret (v := .agg #[.int .i64 n, .bool true, U8 x.kind, .int .i64 x.n, .string x.s, .slice A4 x.l.length c4, .slice A5 x.o.length c5]) (by simp [results, Tryz.results9, go_sem, t0, t1, t2, t3, t4, t5, t6]) rfl HR.out
 | false =>
  go_enter Tryz.func9, Tryz.ntmps9
  go_wp2
  obtain ⟨W0, hW0⟩ : ∃ W0, ((w.alloc (.cells #[.int .i64 n, .bool false, .bool false, .slice A ts.length c] TREC15)).alloc (.cells #[.int .i64 n, .bool false, .int .u8 0, .int .i64 0, .string ⟨#[]⟩, .slice none 0 0, .slice none 0 0] TSHOT)).alloc (.cells #[.int .i64 n, .bool false, .int .u8 0, .int .i64 0, .string ⟨#[]⟩, .slice none 0 0, .slice none 0 0] TSHOT) = W0 := ⟨_, rfl⟩
  have hE0 : Ext w W0 := by rw [← hW0]; exact (((Keep.refl _ _).alloc _).alloc _).alloc _
  have hb1 : Blk W0 (w.heap.size + 1) TSHOT #[.int .i64 n, .bool false, .int .u8 0, .int .i64 0, .string ⟨#[]⟩, .slice none 0 0, .slice none 0 0] := by
   have := (Blk.new (w.alloc (.cells #[.int .i64 n, .bool false, .bool false, .slice A ts.length c] TREC15)) TSHOT #[.int .i64 n, .bool false, .int .u8 0, .int .i64 0, .string ⟨#[]⟩, .slice none 0 0, .slice none 0 0]).alloc (.cells #[.int .i64 n, .bool false, .int .u8 0, .int .i64 0, .string ⟨#[]⟩, .slice none 0 0, .slice none 0 0] TSHOT)
   rw [World.size_alloc] at this
   rw [← hW0]; exact this
  obtain ⟨t0, t1, t2, t3, t4, t5, t6⟩ := blk7s hb1
  have HR := hid (show ShotIs w ⟨n, false, false, ts⟩ (.returned (.agg #[.int .i64 n, .bool false, .int .u8 0, .int .i64 0, .string ⟨#[]⟩, .slice none 0 0, .slice none 0 0])) W0 from
   ⟨_, ⟨n, false, zV⟩, rfl, ⟨_, _, _, _, _, rfl, ⟨_, _, rfl, Sl.nil _ _, Sl.nil _ _⟩⟩, ⟨rfl, rfl, fun _ => rfl, fun h => by cases h⟩, hE0⟩)
  change bodyPost _ _ _ _ _ (((w.alloc (.cells #[.int .i64 n, .bool false, .bool false, .slice A ts.length c] TREC15)).alloc (.cells #[.int .i64 n, .bool false, .int .u8 0, .int .i64 0, .string ⟨#[]⟩, .slice none 0 0, .slice none 0 0] TSHOT)).alloc (.cells #[.int .i64 n, .bool false, .int .u8 0, .int .i64 0, .string ⟨#[]⟩, .slice none 0 0, .slice none 0 0] TSHOT))
  rw [hW0]
  refine bodyPost_ret (v := .agg #[.int .i64 n, .bool false, .int .u8 0, .int .i64 0, .string ⟨#[]⟩, .slice none 0 0, .slice none 0 0]) (by simp [results, Tryz.results9, go_sem, t0, t1, t2, t3, t4, t5, t6]) rfl HR.out
def OwnShape {α : Type} (E : El α) (w : World) (base : Nat) (T : TypeId) (S : BS) (v : Value) (xs : List α) : Prop := ∃ A c, v = .slice A xs.length c ∧ Own E w base T S v xs
theorem OwnShape.ext {α : Type} {E : El α} (hE : E.Ok) {w w' : World} {base : Nat} {T : TypeId} {S : BS} {v : Value} {xs : List α} (h : OwnShape E w base T S v xs) (he : Ext w w') : OwnShape E w' base T S v xs := by
 obtain ⟨A, c, e, h⟩ := h; exact ⟨A, c, e, h.ext hE he⟩
def CopyIs (w : World) (v : V) (e : Ending) (w' : World) : Prop := ∃ lv ov, e = .returned (.agg #[U8 v.kind, .int .i64 v.n, .string v.s, lv, ov]) ∧ Own EVal w' w.heap.size TVAL (fun q => w.heap.size ≤ q ∧ lv.ownBlock ≠ some q) lv v.l ∧
 Own EField w' w.heap.size TFIELD (fun q => w.heap.size ≤ q ∧ ov.ownBlock ≠ some q) ov v.o ∧ Ext w w'
theorem CopyIs.at_ {w : World} {v : V} {e : Ending} {w' : World} (h : CopyIs w v e w') : ∃ u', e = .returned u' ∧ VAt w' (fun k => w.heap.size ≤ k) u' v ∧ Ext w w' := by
 obtain ⟨lv, ov, h1, h2, h3, h4⟩ := h
 exact ⟨_, h1, ⟨lv, ov, rfl, (h2.sl EVal.ok).more EVal.ok fun q _ h => h.elim (fun h => h.1) fun h => (h2.lt h).1, (h3.sl EField.ok).more EField.ok fun q _ h => h.elim (fun h => h.1) fun h => (h3.lt h).1⟩, h4⟩
theorem rise_risesB {o : List F} (h : Rise o) : risesB o = true := (risesB_iff o).2 fun _ hi => rise_at h hi
theorem kind_plain {k : UInt8} {n : Int} {s : ByteArray} {l : List V} {o : List F} (h : KindOk k n s l o) : plainB (.mk k n s l o) = true := by
 rcases h with ⟨rfl, rfl, rfl, rfl, rfl⟩ | ⟨rfl, hn, rfl, rfl, rfl⟩ | ⟨rfl, rfl, rfl, rfl⟩ | ⟨rfl, rfl, hs, rfl, rfl⟩ | ⟨rfl, rfl, rfl, rfl⟩ | ⟨rfl, rfl, rfl, rfl⟩
 ·simp [plainB, V.kind, V.n, V.s, V.l, V.o, ByteArray.toList_eq]
 ·rcases hn with rfl | rfl <;> simp [plainB, V.kind, V.n, V.s, V.l, V.o, ByteArray.toList_eq]
 ·simp [plainB, V.kind, V.s, V.l, V.o, ByteArray.toList_eq]
 ·have := valid_asc hs
  simp [plainB, V.kind, V.n, V.s, V.l, V.o, this]
 ·simp [plainB, V.kind, V.n, V.s, V.o, ByteArray.toList_eq]
 ·simp [plainB, V.kind, V.n, V.s, V.l, ByteArray.toList_eq]
mutual
theorem SV.snd : ∀ (v : V), SV v → v.snd = true
 | .mk k n s l o, h => by
  rw [SV] at h
  rw [V.snd, kind_plain h.1, rise_risesB h.2.2.2, SVs.snd l h.2.1, SFs.snd o h.2.2.1]; rfl
theorem SVs.snd : ∀ (l : List V), SVs l → V.snds l = true
 | [], _ => by rw [V.snds]
 | v :: vs, h => by rw [SVs] at h; rw [V.snds, SV.snd v h.1, SVs.snd vs h.2]; rfl
theorem SF.snd : ∀ (f : F), SF f → F.snd f = true
 | .mk k v, h => by rw [SF] at h; rw [F.snd, valid_asc h.1, SV.snd v h.2]; rfl
theorem SFs.snd : ∀ (l : List F), SFs l → F.snds l = true
 | [], _ => by rw [F.snds]
 | v :: vs, h => by rw [SFs] at h; rw [F.snds, SF.snd v h.1, SFs.snd vs h.2]; rfl
end
mutual
theorem VStr.mono {R R' : Nat} (hR : R ≤ R') : ∀ (v : V), VStr R v → VStr R' v
 | .mk k n s l o, h => by
  rw [VStr] at h ⊢
  exact ⟨Nat.le_trans h.1 hR, VStrs.mono hR l h.2.1, FStrs.mono hR o h.2.2⟩
theorem VStrs.mono {R R' : Nat} (hR : R ≤ R') : ∀ (l : List V), VStrs R l → VStrs R' l
 | [], _ => by rw [VStrs]; trivial
 | v :: vs, h => by rw [VStrs] at h ⊢; exact ⟨VStr.mono hR v h.1, VStrs.mono hR vs h.2⟩
theorem FStr.mono {R R' : Nat} (hR : R ≤ R') : ∀ (f : F), FStr R f → FStr R' f
 | .mk k v, h => by rw [FStr] at h ⊢; exact ⟨Nat.le_trans h.1 hR, VStr.mono hR v h.2⟩
theorem FStrs.mono {R R' : Nat} (hR : R ≤ R') : ∀ (l : List F), FStrs R l → FStrs R' l
 | [], _ => by rw [FStrs]; trivial
 | v :: vs, h => by rw [FStrs] at h ⊢; exact ⟨FStr.mono hR v h.1, FStrs.mono hR vs h.2⟩
end
theorem SV.big {v : V} (h : SV v) : VStr BigR v := VStr.mono (by unfold BigR; decide) v (SV.str v h)
mutual
theorem weight_size {R : Nat} : ∀ v : V, VStr R v → v.weight + R ≤ v.size * (1 + 2 * R)
 | .mk k n s l o, h => by
  rw [VStr] at h
  have h1 := weights_size l h.2.1
  have h2 := fweights_size o h.2.2
  rw [V.weight, V.size]
  have h0 := h.1
  rw [Nat.add_mul, Nat.add_mul]
  omega
theorem weights_size {R : Nat} : ∀ l : List V, VStrs R l → V.weights l ≤ V.sizes l * (1 + 2 * R)
 | [], _ => by simp [V.weights]
 | v :: l, h => by
  rw [VStrs] at h
  have h1 := weight_size v h.1
  have h2 := weights_size l h.2
  rw [V.weights, V.sizes, Nat.add_mul]; omega
theorem fweights_size {R : Nat} : ∀ l : List F, FStrs R l → F.weights l ≤ F.sizes l * (1 + 2 * R)
 | [], _ => by simp [F.weights]
 | .mk k v :: l, h => by
  rw [FStrs, FStr] at h
  have h1 := weight_size v h.1.2
  have h2 := fweights_size l h.2
  have h0 := h.1.1
  rw [F.weights, F.sizes, F.weight, F.size, Nat.add_mul]; omega
end
theorem zV_wide : Wide zV := ⟨by unfold zV; rw [V.size, V.sizes, F.sizes]; decide, by unfold zV; rw [VStr]; exact ⟨by decide, by rw [VStrs]; trivial, by rw [FStrs]; trivial⟩, by unfold zV; simp [V.weight, V.weights, F.weights, ByteArray.size]⟩
theorem zV_n64 : NAll N64 zV := by unfold zV; rw [NAll, NAlls, NFAlls]; exact ⟨⟨by decide, by decide⟩, trivial, trivial⟩
theorem built_good {v : V} (h : SVd 0 v) (hz : v.size ≤ 241) : Wide v ∧ lightB v = true ∧ (encV v).length ≤ 22413 := by
 obtain ⟨h1, h2, h3⟩ := h
 have hw := weight_size v h3
 have he := enc_short v h3
 have hm : v.size * (1 + 2 * 40) ≤ 241 * (1 + 2 * 40) := Nat.mul_le_mul_right _ hz
 have hm2 : v.size * (13 + 2 * 40) ≤ 241 * (13 + 2 * 40) := Nat.mul_le_mul_right _ hz
 refine ⟨⟨by omega, h1.big, by omega⟩, ?_, by omega⟩
 unfold lightB
 rw [SV.snd v h1, decide_eq_true (show v.deep ≤ 16 by omega), decide_eq_true (show v.weight ≤ 20000 by omega)]
 rfl
theorem sh_good {r : Rs} {s : Sh} (h : ShOf r s) (h0 : 0 ≤ r.n) (h5 : r.n ≤ 5000) (hT : ∀ t ∈ r.v, TkF t) : ShOk s ∧ Wide s.v ∧ (shB s).length ≤ 22500 := by
 obtain ⟨n, th, v⟩ := s
 obtain ⟨hn, hth, hz, hv⟩ := h
 simp only at hn hth hz hv ⊢
 subst hn hth
 cases hx : r.there with
 | false =>
  have hz := hz hx
  subst hz
  have hl : (shB ⟨r.n, false, zV⟩).length = 9 := by unfold shB; simp [beN_len]
  exact ⟨⟨h0, h5, fun _ => rfl, rfl, zV_n64, by rw [hl]; decide⟩, zV_wide, by rw [hl]; decide⟩
 | true =>
  obtain ⟨hs, hzz, hN, _⟩ := hv hx
  obtain ⟨h1, h2, h3⟩ := built_good hs hzz
  have hc : valC v = 0 := by unfold valC; rw [if_pos h2, if_neg (by omega)]
  have hb : valB v = encV v := by unfold valB; rw [if_pos hc]
  have hl : (shB ⟨r.n, true, v⟩).length ≤ 22422 := by unfold shB; simp [beN_len, hb]; omega
  have hN64 : NAll N64 v := hN N64 (fun t ht => by
   have hw := (hT t ht).2
   simp [Lit.wf, IntKind.min, IntKind.max, IntKind.signed, IntKind.bits] at hw
   exact ⟨by omega, by omega⟩) ⟨by decide, by decide⟩ ⟨by decide, by decide⟩
  exact ⟨⟨h0, h5, fun h => Bool.noConfusion h, by unfold shC; rw [if_pos rfl]; exact hc, hN64, by omega⟩, h1, by omega⟩
theorem sh_wide {r : Rs} {s : Sh} (h : ShOf r s) : Wide s.v := by
 obtain ⟨n, th, v⟩ := s
 obtain ⟨hn, hth, hz, hv⟩ := h
 simp only at hn hth hz hv ⊢
 cases hx : r.there with
 | false => rw [hz hx]; exact zV_wide
 | true => obtain ⟨hs, hzz, _⟩ := hv hx; exact (built_good hs hzz).1
theorem scan_rest : ∀ (ls : List (List UInt8)) (r : List UInt8), (∀ x ∈ ls, x.length ≤ 60000) → openL r = none → scanL (rowsL ls ++ r) = (ls, (rowsL ls).length)
 | [], r, _, hr => by rw [show rowsL [] ++ r = r from rfl, scanL_none hr]; rfl
 | x :: ls, r, h, hr => by
  have h1 := scan_rest ls r (fun y hy => h y (List.mem_cons_of_mem _ hy)) hr
  have h0 := openL_frm x (rowsL ls ++ r) (h x List.mem_cons_self)
  rw [rowsL_cons, List.append_assoc, scanL_some h0, show (frm x ++ (rowsL ls ++ r)).drop (8 + x.length) = rowsL ls ++ r from List.drop_left' (frm_length x), h1, List.length_append, frm_length]
def junkL : List UInt8 := [0, 0, 0, 9, 1]
theorem open_junk (j : Nat) : openL (junkL.take j) = none := by
 unfold openL
 rw [if_pos (by rw [List.length_take]; simp only [junkL, List.length_cons, List.length_nil]; omega)]
theorem one_last {nm : ByteArray} {ls : List (List UInt8)} (h : ls ≠ []) : oneF nm ls = [⟨byt (fileT nm), rowsL ls, (rowsL ls).length⟩] := by unfold oneF; rw [if_neg h]
theorem crash_junk (nm : List UInt8) (ls : List (List UInt8)) (k : Nat) : ∃ j, [DC.mk nm (rowsL ls ++ junkL) (rowsL ls).length].map (crashC k) = [⟨nm, rowsL ls ++ junkL.take j, (rowsL ls).length + j⟩] := by
 refine ⟨min k ((rowsL ls ++ junkL).length - (rowsL ls).length), ?_⟩
 rw [one_crash (by rw [List.length_append]; omega), List.take_length_add_append]
theorem rows_all {ss : List Sh} (h : ∀ s ∈ ss, ShOk s ∧ Wide s.v ∧ (shB s).length ≤ 22500) : (∀ x ∈ ss.map shB, x.length ≤ 60000) ∧ (rowsL (ss.map shB)).length ≤ ss.length * 22508 := by
 have h1 : ∀ x ∈ ss.map shB, x.length ≤ 22500 := by
  intro x hx
  obtain ⟨s, hs, rfl⟩ := List.mem_map.1 hx
  exact (h s hs).2.2
 refine ⟨fun x hx => by have := h1 x hx; omega, ?_⟩
 have := lensL_le _ 22500 h1
 rw [lensL_rows]
 rw [List.length_map] at this
 omega
end Go.Proofs.YtihaliffcobacaaGreatDoor
namespace Go.Proofs.YtihaliffcobacaaGreatDoor
open Go.RowKit Go.Maps
def delC (cs : List DC) (name : List UInt8) : List DC := cs.filter fun c => !(c.name == name)
theorem usedC_del (cs : List DC) (name : List UInt8) : usedC (delC cs name) ≤ usedC cs := by
 unfold delC
 induction cs with
 | nil => exact Nat.le_refl _
 | cons x r ih =>
  rw [List.filter_cons]
  split
  ·rw [usedC_cons, usedC_cons]; omega
  ·rw [usedC_cons]; omega
theorem DOk.setLeft {cs : List DC} {s : DSt} (h : DOk cs s) {x : Int} (hx : -1 ≤ x ∧ x ≤ 9223372036854775807) : DOk cs { s with left := x } := ⟨h.room, h.used, h.many, h.names, hx⟩
theorem DOk.setFull {cs : List DC} {s : DSt} (h : DOk cs s) (x : Bool) : DOk cs { s with full := x } := ⟨h.room, h.used, h.many, h.names, h.left⟩
theorem DOk.del {cs : List DC} {s : DSt} (h : DOk cs s) (name : List UInt8) : DOk (delC cs name) s :=
 ⟨h.room, Nat.le_trans (usedC_del cs name) h.used, Nat.le_trans (List.length_filter_le _ _) h.many, fun c hc => h.names c ((List.mem_filter.1 hc).1), h.left⟩
theorem disk_full (w : World) (B : BS) (d : Nat) (cs : List DC) (s : DSt) (on : Bool) (h : DiskIs w B d cs s) :
  Calls Tryz.prog 11 #[.pointer (some ⟨d, 0, none⟩), .bool on] w fun e w' => e = .returned (.tuple #[]) ∧ DiskIs w' B d cs { s with full := on } ∧ Keep B w w' := by
 obtain ⟨h0, m, fs, hd, rfl⟩ := h
 obtain ⟨_, _, c2, _⟩ := hd.cells
 have hz := hd.blk.frozen
 have HD := hid hd
 have HO := hid (h0.setFull on)
 clear h0 hd
 go_enter Tryz.func11, Tryz.ntmps11
 go_wp2
 go_end0
 exact ⟨rfl, ⟨HO.out, m, fs, HD.out.setFull on, rfl⟩, ((Keep.refl (· = d) w).set1 2 _).mono fun k _ e => by subst e; exact HD.out.own⟩
end Go.Proofs.YtihaliffcobacaaGreatDoor
