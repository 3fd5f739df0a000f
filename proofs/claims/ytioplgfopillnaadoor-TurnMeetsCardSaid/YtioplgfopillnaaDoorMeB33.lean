/- TextE, TextF, LayDR, TextR, Do4A: laid together. -/
import Derived.Test.YtioplgfopillnaaDoorMeB32
import Derived.Shelf.Unicode.DecodeAny
import Derived.Ground.NamesProg
import Derived.Test.YtioplgfopillnaaDoorProg
import Derived.Test.YtioplgfopillnaaDoorMeB6
import Derived.Test.YtioplgfopillnaaDoorMeB26
import Derived.Lib.RuneCountTail
import Derived.Shelf.Unicode.DecodeLastEight
import Derived.Lib.LaidU8T
import Derived.LaidByTextLater
import Derived.Test.YtioplgfopillnaaDoorMeB2
set_option linter.unusedSimpArgs false
set_option linter.unusedVariables false
set_option maxHeartbeats 25600000
set_option maxRecDepth 20000
namespace Go.Proofs.YtioplgfopillnaaDoor
open Go.RowKit
set_option maxRecDepth 100000 in
theorem shift_any (k : UInt8) (pA : Option Addr) (pn pc : Nat) (key : ByteArray) (j : Int) (y0 : UInt8) (y1 : Int) (y2 : ByteArray) (A3 : Option Addr) (n3 c3 : Nat) (A4 : Option Addr) (n4 c4 : Nat) (s : ByteArray) (bk : UInt8) (p' key' j' u0 u1 u2 u3 u4 : Value) (bs : ByteArray) (ai an bi bn : Int) (left : Bool) (hai : Tm ai) (hbi : Tm bi) (hbn : Tm bn) (hbs : bs.size ≤ 140737488355328) (w : World) :
  Calls Tryd.prog 85 #[tcV (U8 k) (.slice pA pn pc) (.string key) ai (.int .i64 j) an (U8 y0) (.int .i64 y1) (.string y2) (.slice A3 n3 c3) (.slice A4 n4 c4) (.string s), tcV (U8 bk) p' key' bi j' bn u0 u1 u2 u3 u4 (.string bs), .bool left] w
   fun e w' => e = .returned (tcV (U8 k) (.slice pA pn pc) (.string key) (shiftL ai bk bi bn (Lib.runeCount bs : Nat) left) (.int .i64 j) an (U8 y0) (.int .i64 y1) (.string y2) (.slice A3 n3 c3) (.slice A4 n4 c4) (.string s)) ∧ Ext w w' := by
 obtain ⟨hai1, hai2⟩ := hai
 obtain ⟨hbn1, hbn2⟩ := hbn
 obtain ⟨hbi1, hbi2⟩ := hbi
 obtain ⟨Wb, hWb⟩ : ∃ Wb, (w.alloc (.cells (tcA (U8 k) (.slice pA pn pc) (.string key) ai (.int .i64 j) an (U8 y0) (.int .i64 y1) (.string y2) (.slice A3 n3 c3) (.slice A4 n4 c4) (.string s)) TCOMP)).alloc (.cells (tcA (U8 bk) p' key' bi j' bn u0 u1 u2 u3 u4 (.string bs)) TCOMP) = Wb := ⟨_, rfl⟩
 have hzb : Wb.heap.size = w.heap.size + 2 := by rw [← hWb]; simp
 obtain ⟨W0, hW0⟩ : ∃ W0, Wb.alloc (.cells #[.int .u8 0, .slice none 0 0, .string ⟨#[]⟩, .int .i64 0, .int .i64 0, .int .i64 0, .int .u8 0, .int .i64 0, .string ⟨#[]⟩, .slice none 0 0, .slice none 0 0, .string ⟨#[]⟩] TCOMP) = W0 := ⟨_, rfl⟩
 have hE0 : Ext w W0 := by rw [← hW0, ← hWb]; exact (((Keep.refl _ _).alloc _).alloc _).alloc _
 have hsz : W0.heap.size = w.heap.size + 3 := by rw [← hW0]; simp [hzb]
 have ha : Blk W0 w.heap.size TCOMP (tcA (U8 k) (.slice pA pn pc) (.string key) ai (.int .i64 j) an (U8 y0) (.int .i64 y1) (.string y2) (.slice A3 n3 c3) (.slice A4 n4 c4) (.string s)) := by rw [← hW0, ← hWb]; exact ((Blk.new w TCOMP _).alloc _).alloc _
 have hb : Blk W0 (w.heap.size + 1) TCOMP (tcA (U8 bk) p' key' bi j' bn u0 u1 u2 u3 u4 (.string bs)) := by
  have := (Blk.new (w.alloc (.cells (tcA (U8 k) (.slice pA pn pc) (.string key) ai (.int .i64 j) an (U8 y0) (.int .i64 y1) (.string y2) (.slice A3 n3 c3) (.slice A4 n4 c4) (.string s)) TCOMP)) TCOMP (tcA (U8 bk) p' key' bi j' bn u0 u1 u2 u3 u4 (.string bs))).alloc (.cells #[.int .u8 0, .slice none 0 0, .string ⟨#[]⟩, .int .i64 0, .int .i64 0, .int .i64 0, .int .u8 0, .int .i64 0, .string ⟨#[]⟩, .slice none 0 0, .slice none 0 0, .string ⟨#[]⟩] TCOMP)
  rw [World.size_alloc] at this
  rw [← hW0, ← hWb]; exact this
 have hc : Blk W0 (w.heap.size + 2) TCOMP #[.int .u8 0, .slice none 0 0, .string ⟨#[]⟩, .int .i64 0, .int .i64 0, .int .i64 0, .int .u8 0, .int .i64 0, .string ⟨#[]⟩, .slice none 0 0, .slice none 0 0, .string ⟨#[]⟩] := by rw [← hW0, ← hzb]; exact Blk.new _ _ _
 have hrb : Lib.runeCount bs ≤ bs.size := Lib.runeCount_le bs
 obtain ⟨rb, hr⟩ : ∃ rb : Nat, Lib.runeCount bs = rb := ⟨_, rfl⟩
 rw [hr] at hrb ⊢
 have HRB := hid hr
 have HLEN := hid (tlen_any bs hbs)
 have HW0 := hid (show ((w.alloc (.cells (tcA (U8 k) (.slice pA pn pc) (.string key) ai (.int .i64 j) an (U8 y0) (.int .i64 y1) (.string y2) (.slice A3 n3 c3) (.slice A4 n4 c4) (.string s)) TCOMP)).alloc (.cells (tcA (U8 bk) p' key' bi j' bn u0 u1 u2 u3 u4 (.string bs)) TCOMP)).alloc (.cells #[.int .u8 0, .slice none 0 0, .string ⟨#[]⟩, .int .i64 0, .int .i64 0, .int .i64 0, .int .u8 0, .int .i64 0, .string ⟨#[]⟩, .slice none 0 0, .slice none 0 0, .string ⟨#[]⟩] TCOMP) = W0 from by rw [hWb, hW0])
 have HE0 := hid hE0
 have HA := hid ha
 have HB := hid hb
 have HC := hid hc
 have HSZ := hid hsz
 obtain ⟨sh, hsh⟩ : ∃ sh, shiftL ai bk bi bn rb left = sh := ⟨_, rfl⟩
 rw [hsh]
 have HSH := hid hsh
 clear hW0 hE0 ha hb hc hsz hr hWb hzb hsh
 by_cases hk : bk = 8
 ·subst hk
  by_cases hm : bi < ai ∨ (bi = ai ∧ left = false)
  ·have hs2 : sh = ai + rb := by rw [← HSH.out]; unfold shiftL; rw [if_pos rfl, if_pos hm]
   have HS2 := hid hs2
   have hmm : bi < ai ∨ (¬ bi < ai ∧ (bi == ai) = true ∧ left = false) := by
    rcases hm with h | ⟨h1, h2⟩
    ·exact .inl h
    ·exact .inr ⟨by omega, by simpa using h1, h2⟩
   clear hs2 hm
   rcases hmm with hm | ⟨hm1, hm2, rfl⟩
   all_goals
    go_enter Tryd.func85, Tryd.ntmps85
    go_wp2_with fail
    rw [HW0.out]
    obtain ⟨a0, a1, a2, a3, a4, a5, a6, a7, a8, a9, a10, a11⟩ := blk12 HA.out
    have b11 := HB.out.cell 11
    simp only [List.getElem?_toArray, List.getElem?_cons_succ, List.getElem?_cons_zero] at b11
    refine wp_region_parts [0, 2] [1, 3, 4, 5] [6, 7] (specOf [(4, fun v w => v = .int .i64 (rb : Nat))]) (fun w' => Ext W0 w') (stable_cons (fun v w w' h he => h) stable_nil) (stableC_ext _) (by kernel_rfl) (by kernel_rfl) (Keep.drew (Keep.refl _ _)) ?_
    iterate 2
     (try simp only [Act.put, sqa, sqb, sqc])
     refine pure_run rfl rfl ?_
     apply Exists.intro
     refine ⟨fun w' => ?_, ?_⟩
     ·go_simp
      rfl
    refine pure_nil ?_
    iterate 2
     (try simp only [Act.put, sqa, sqb, sqc])
     refine growP_run rfl rfl rfl ?_
     apply Exists.intro
     refine ⟨fun w' hC hK => ?_, ?_⟩
     ·have a3 := sqw hC a3
      have b11 := sqw hC b11
      go_simp
      rfl
    (try simp only [Act.put, sqa, sqb, sqc])
    refine growP_eff rfl rfl rfl (fun w' hC hK => ?_) (fun v4 hv4 => ?_)
    ·unfold growAt
     go_simp
     refine grow_call ((HLEN.out w').mono ?_)
     rintro e w'' ⟨rfl, h1⟩
     exact ⟨_, rfl, h1, by rw [HRB.out]⟩
    obtain ⟨_, _, rfl⟩ := hv4.head
    clear hv4
    iterate 1
     (try simp only [Act.put, sqa, sqb, sqc])
     refine growP_run rfl rfl rfl ?_
     apply Exists.intro
     refine ⟨fun w' hC hK => ?_, ?_⟩
     ·go_simp
      rfl
    refine growP_nil fun W1 hC hK => ?_
    have hC : Ext W0 W1 := hC
    have hA1 := HA.out.keep hC id
    have q3 := hA1.cell 3
    have f3 := hA1.frozen 3
    simp only [List.getElem?_toArray, List.getElem?_cons_succ, List.getElem?_cons_zero] at q3
    have hC1 := HC.out.keep hC id
    have hkA : Keep (· = w.heap.size) W1 (W1.setCell ⟨w.heap.size, 3, none⟩ (.int .i64 (ai + rb))) := (Keep.refl _ _).set1 3 _
    have HA2 := hid (hA1.set_ 3 (.int .i64 (ai + rb)))
    have HC2 := hid (hC1.keep hkA (by omega))
    have HE2 := hid (HE0.out.trans ((hC.mono fun _ _ h => h.elim : Keep (· = w.heap.size) W0 W1).trans hkA fun _ _ h => h) fun q hq e => by omega)
    clear hC hK hA1 hC1 hkA a0 a1 a2 a3 a4 a5 a6 a7 a8 a9 a10 a11 b11
    change wpList _ _ _ (_ :: _ :: []) _ _
    (try simp only [Act.put, sqa, sqb, sqc])
    go_wp2_with fail
    refine NoPanic.normal ?_
    generalize W1.setCell ⟨w.heap.size, 3, none⟩ (.int .i64 (ai + rb)) = W2 at *
    clear q3 f3
    obtain ⟨a0, a1, a2, a3, a4, a5, a6, a7, a8, a9, a10, a11⟩ := blk12 HA2.out
    obtain ⟨c0, c1, c2, c3', c4', c5, c6, c7, c8, c9, c10, c11⟩ := blk12 HC2.out
    obtain ⟨g0, g1, g2, g3, g4, g5, g6, g7, g8, g9, g10, g11⟩ := sqf12 HC2.out
    go_wp2
    obtain ⟨r0, r1, r2, r3, r4, r5, r6, r7, r8, r9, r10, r11⟩ := blk12 (put12_blk HC2.out (U8 k) (.slice pA pn pc) (.string key) (.int .i64 (ai + rb)) (.int .i64 j) (.int .i64 an) (U8 y0) (.int .i64 y1) (.string y2) (.slice A3 n3 c3) (.slice A4 n4 c4) (.string s))
    have HEF := hid (HE2.out.trans (put12_keep W2 (w.heap.size + 2) (U8 k) (.slice pA pn pc) (.string key) (.int .i64 (ai + rb)) (.int .i64 j) (.int .i64 an) (U8 y0) (.int .i64 y1) (.string y2) (.slice A3 n3 c3) (.slice A4 n4 c4) (.string s)) fun q hq e => by omega)
    change bodyPost _ _ _ _ _ (put12 W2 (w.heap.size + 2) (U8 k) (.slice pA pn pc) (.string key) (.int .i64 (ai + rb)) (.int .i64 j) (.int .i64 an) (U8 y0) (.int .i64 y1) (.string y2) (.slice A3 n3 c3) (.slice A4 n4 c4) (.string s))
    generalize put12 W2 (w.heap.size + 2) (U8 k) (.slice pA pn pc) (.string key) (.int .i64 (ai + rb)) (.int .i64 j) (.int .i64 an) (U8 y0) (.int .i64 y1) (.string y2) (.slice A3 n3 c3) (.slice A4 n4 c4) (.string s) = WF at *
    refine bodyPost_ret (v := tcV (U8 k) (.slice pA pn pc) (.string key) (ai + rb) (.int .i64 j) an (U8 y0) (.int .i64 y1) (.string y2) (.slice A3 n3 c3) (.slice A4 n4 c4) (.string s)) (by simp [results, Tryd.results85, go_sem, r0, r1, r2, r3, r4, r5, r6, r7, r8, r9, r10, r11]) rfl ⟨by rw [HS2.out], HEF.out⟩
  ·have hs2 : sh = ai := by rw [← HSH.out]; unfold shiftL; rw [if_pos rfl, if_neg hm]
   have HS2 := hid hs2
   have hmm : (¬ bi < ai ∧ (bi == ai) = false) ∨ (¬ bi < ai ∧ (bi == ai) = true ∧ left = true) := by
    by_cases h : bi = ai
    ·refine .inr ⟨by omega, by simpa using h, ?_⟩
     cases left
     ·exact absurd (.inr ⟨h, rfl⟩) hm
     ·rfl
    ·refine .inl ⟨fun h' => hm (.inl h'), by simpa using h⟩
   clear hs2 hm
   have hEF : Ext w (((w.alloc (.cells (tcA (U8 k) (.slice pA pn pc) (.string key) ai (.int .i64 j) an (U8 y0) (.int .i64 y1) (.string y2) (.slice A3 n3 c3) (.slice A4 n4 c4) (.string s)) TCOMP)).alloc (.cells (tcA (U8 8) p' key' bi j' bn u0 u1 u2 u3 u4 (.string bs)) TCOMP)).alloc (.cells #[.int .u8 k.toNat, .slice pA pn pc, .string key, .int .i64 ai, .int .i64 j, .int .i64 an, .int .u8 y0.toNat, .int .i64 y1, .string y2, .slice A3 n3 c3, .slice A4 n4 c4, .string s] TCOMP)) := (((Keep.refl _ _).alloc _).alloc _).alloc _
   have HEF := hid hEF
   clear hEF
   rcases hmm with ⟨hm1, hm2⟩ | ⟨hm1, hm2, rfl⟩
   all_goals
    go_enter Tryd.func85, Tryd.ntmps85
    go_wp2
    refine bodyPost_ret (v := tcV (U8 k) (.slice pA pn pc) (.string key) (ai) (.int .i64 j) an (U8 y0) (.int .i64 y1) (.string y2) (.slice A3 n3 c3) (.slice A4 n4 c4) (.string s)) (by simp [results, Tryd.results85, go_sem]) rfl ⟨by rw [HS2.out], HEF.out⟩
 ·rw [← HSH.out, ← HRB.out]
  exact shift_del k pA pn pc key j y0 y1 y2 A3 n3 c3 A4 n4 c4 s bk p' key' j' u0 u1 u2 u3 u4 bs ai an bi bn left ⟨hai1, hai2⟩ ⟨hbi1, hbi2⟩ ⟨hbn1, hbn2⟩ hbs hk w
def tturn (ak : UInt8) (ai an : Int) (bk : UInt8) (bi bn rb : Int) (left : Bool) : List (Int × Int) :=
 if tknown ak = false ∨ tknown bk = false then [(ai, an)]
 else if ak = 8 then [(shiftL ai bk bi bn rb left, an)]
 else if bk = 8 then splitL ai an bi rb
 else if (shrinkL ai an bi bn).2 = 0 then [] else [shrinkL ai an bi bn]
theorem TextIs.from_ {k p key j v0 v1 v2 v3 v4 s : Value} {w w1 w' : World} {l : List (Int × Int)} {e : Ending} (h : TextIs k p key j v0 v1 v2 v3 v4 s w1 l e w') (hE : Ext w w1) (hs : (ETt k p key j v0 v1 v2 v3 v4 s).Ok) : TextIs k p key j v0 v1 v2 v3 v4 s w l e w' := by
 obtain ⟨v, rfl, h1, h2⟩ := h
 exact ⟨v, rfl, h1.less hE.size, hE.ext h2⟩
theorem ETt.ok {k p key j v0 v1 v2 v3 v4 s : Value} (h : ∀ u ∈ [k, p, key, j, v0, v1, v2, v3, v4, s], u.oneCell' = true) : (ETt k p key j v0 v1 v2 v3 v4 s).Ok where
 pos := by show 0 < 12; decide
 len := fun h => by have h := h; subst h; rfl
 one := fun hx u hu => by
  subst hx
  simp only [List.mem_cons, List.not_mem_nil, or_false] at hu h
  rcases hu with hu | hu | hu | hu | hu | hu | hu | hu | hu | hu | hu | hu
  ·exact h u (by simp [hu])
  ·exact h u (by simp [hu])
  ·exact h u (by simp [hu])
  ·rw [hu]; rfl
  ·exact h u (by simp [hu])
  ·rw [hu]; rfl
  all_goals exact h u (by simp [hu])
 keep := fun h _ _ => h
 more := fun h _ => h
set_option maxRecDepth 100000 in
theorem turn_text (ak : UInt8) (pA : Option Addr) (pn pc : Nat) (key : ByteArray) (j : Int) (y0 : UInt8) (y1 : Int) (y2 : ByteArray) (A3 : Option Addr) (n3 c3 : Nat) (A4 : Option Addr) (n4 c4 : Nat) (s : ByteArray) (bk : UInt8) (p' key' j' u0 u1 u2 u3 u4 : Value) (bs : ByteArray) (ai an bi bn : Int) (left : Bool)
  (hai : Tm ai) (han : Tm an) (hbi : Tm bi) (hbn : Tm bn) (hbs : bs.size ≤ 140737488355328) (w : World) :
  Calls Tryd.prog 58 #[tcV (U8 ak) (.slice pA pn pc) (.string key) ai (.int .i64 j) an (U8 y0) (.int .i64 y1) (.string y2) (.slice A3 n3 c3) (.slice A4 n4 c4) (.string s), tcV (U8 bk) p' key' bi j' bn u0 u1 u2 u3 u4 (.string bs), .bool left] w
   (TextIs (U8 ak) (.slice pA pn pc) (.string key) (.int .i64 j) (U8 y0) (.int .i64 y1) (.string y2) (.slice A3 n3 c3) (.slice A4 n4 c4) (.string s) w (tturn ak ai an bk bi bn (Lib.runeCount bs : Nat) left)) := by
 have HOK := hid (show (ETt (U8 ak) (.slice pA pn pc) (.string key) (.int .i64 j) (U8 y0) (.int .i64 y1) (.string y2) (.slice A3 n3 c3) (.slice A4 n4 c4) (.string s)).Ok from ETt.ok (by intro u hu; simp at hu; rcases hu with rfl | rfl | rfl | rfl | rfl | rfl | rfl | rfl | rfl | rfl <;> rfl))
 obtain ⟨W0, hW0⟩ : ∃ W0, (w.alloc (.cells (tcA (U8 ak) (.slice pA pn pc) (.string key) ai (.int .i64 j) an (U8 y0) (.int .i64 y1) (.string y2) (.slice A3 n3 c3) (.slice A4 n4 c4) (.string s)) TCOMP)).alloc (.cells (tcA (U8 bk) p' key' bi j' bn u0 u1 u2 u3 u4 (.string bs)) TCOMP) = W0 := ⟨_, rfl⟩
 have hE0 : Ext w W0 := by rw [← hW0]; exact ((Keep.refl _ _).alloc _).alloc _
 have hsz : W0.heap.size = w.heap.size + 2 := by rw [← hW0]; simp
 have ha : Blk W0 w.heap.size TCOMP (tcA (U8 ak) (.slice pA pn pc) (.string key) ai (.int .i64 j) an (U8 y0) (.int .i64 y1) (.string y2) (.slice A3 n3 c3) (.slice A4 n4 c4) (.string s)) := by rw [← hW0]; exact (Blk.new w TCOMP _).alloc _
 have hb : Blk W0 (w.heap.size + 1) TCOMP (tcA (U8 bk) p' key' bi j' bn u0 u1 u2 u3 u4 (.string bs)) := by
  have := Blk.new (w.alloc (.cells (tcA (U8 ak) (.slice pA pn pc) (.string key) ai (.int .i64 j) an (U8 y0) (.int .i64 y1) (.string y2) (.slice A3 n3 c3) (.slice A4 n4 c4) (.string s)) TCOMP)) TCOMP (tcA (U8 bk) p' key' bi j' bn u0 u1 u2 u3 u4 (.string bs))
  rw [World.size_alloc] at this
  rw [← hW0]; exact this
 have HT := hid (show tturn ak ai an bk bi bn (Lib.runeCount bs : Nat) left = _ from rfl)
 generalize hR : tturn ak ai an bk bi bn (Lib.runeCount bs : Nat) left = R
 have HR := hid hR
 have HA := hid ha
 have HB := hid hb
 have HE0 := hid hE0
 have HK := hid (fun (k : UInt8) p key j nn v0 v1 v2 v3 v4 s i w => tknown_any k p key j nn v0 v1 v2 v3 v4 s i w)
 clear ha hb hE0 hR HT
 have hres1 : ∀ {W : World}, Ext w W → R = [(ai, an)] → TextIs (U8 ak) (.slice pA pn pc) (.string key) (.int .i64 j) (U8 y0) (.int .i64 y1) (.string y2) (.slice A3 n3 c3) (.slice A4 n4 c4) (.string s) w R (.returned (.slice (some ⟨W.heap.size, 0, none⟩) 1 1)) (W.alloc (.cells (tcA (U8 ak) (.slice pA pn pc) (.string key) ai (.int .i64 j) an (U8 y0) (.int .i64 y1) (.string y2) (.slice A3 n3 c3) (.slice A4 n4 c4) (.string s)) TCOMP)) := fun hE hr => by
  rw [hr]; exact text_one _ _ _ _ _ _ _ _ _ _ hE rfl
 have HRES := hid (fun (W : World) (hE : Ext w W) (hr : R = [(ai, an)]) => hres1 hE hr)
 clear hres1 hsz
 by_cases hka : tknown ak = false
 ·have HRR := hid (show R = [(ai, an)] from by rw [← HR.out]; unfold tturn; rw [if_pos (.inl hka)])
  have hka' := hid hka
  clear hka
  obtain ⟨a0, a1, a2, a3, a4, a5, a6, a7, a8, a9, a10, a11⟩ := blk12 HA.out
  obtain ⟨b0, b1, b2, b3, b4, b5, b6, b7, b8, b9, b10, b11⟩ := blk12 HB.out
  go_enter Tryd.func58, Tryd.ntmps58
  go_wp2_with fail
  clear a0 a1 a2 a3 a4 a5 a6 a7 a8 a9 a10 a11 b0 b1 b2 b3 b4 b5 b6 b7 b8 b9 b10 b11
  refine (tknown_any (ak) (.slice pA pn pc) (.string key) (.int .i64 j) (.int .i64 an) (U8 y0) (.int .i64 y1) (.string y2) (.slice A3 n3 c3) (.slice A4 n4 c4) (.string s) (.int .i64 ai) W0).mono ?_
  rintro e W1 ⟨rfl, hE⟩
  rw [hka'.out]
  have HA1 := hid (HA.out.keep hE id)
  have HB1 := hid (HB.out.keep hE id)
  have HE1 := hid (HE0.out.ext hE)
  clear hE
  obtain ⟨a0, a1, a2, a3, a4, a5, a6, a7, a8, a9, a10, a11⟩ := blk12 HA1.out
  obtain ⟨b0, b1, b2, b3, b4, b5, b6, b7, b8, b9, b10, b11⟩ := blk12 HB1.out
  go_wp2_with fail
  go_ret
  exact HRES.out W1 HE1.out HRR.out
 have hka1 : tknown ak = true := by cases h : tknown ak; exact absurd h hka; rfl
 by_cases hkb : tknown bk = false
 ·have HRR := hid (show R = [(ai, an)] from by rw [← HR.out]; unfold tturn; rw [if_pos (.inr hkb)])
  have hka' := hid hka1
  have hkb' := hid hkb
  clear hka hka1 hkb
  obtain ⟨a0, a1, a2, a3, a4, a5, a6, a7, a8, a9, a10, a11⟩ := blk12 HA.out
  obtain ⟨b0, b1, b2, b3, b4, b5, b6, b7, b8, b9, b10, b11⟩ := blk12 HB.out
  go_enter Tryd.func58, Tryd.ntmps58
  go_wp2_with fail
  clear a0 a1 a2 a3 a4 a5 a6 a7 a8 a9 a10 a11 b0 b1 b2 b3 b4 b5 b6 b7 b8 b9 b10 b11
  refine (tknown_any (ak) (.slice pA pn pc) (.string key) (.int .i64 j) (.int .i64 an) (U8 y0) (.int .i64 y1) (.string y2) (.slice A3 n3 c3) (.slice A4 n4 c4) (.string s) (.int .i64 ai) W0).mono ?_
  rintro e W1 ⟨rfl, hE⟩
  rw [hka'.out]
  have HA1 := hid (HA.out.keep hE id)
  have HB1 := hid (HB.out.keep hE id)
  have HE1 := hid (HE0.out.ext hE)
  clear hE
  obtain ⟨a0, a1, a2, a3, a4, a5, a6, a7, a8, a9, a10, a11⟩ := blk12 HA1.out
  obtain ⟨b0, b1, b2, b3, b4, b5, b6, b7, b8, b9, b10, b11⟩ := blk12 HB1.out
  go_wp2_with fail
  clear a0 a1 a2 a3 a4 a5 a6 a7 a8 a9 a10 a11 b0 b1 b2 b3 b4 b5 b6 b7 b8 b9 b10 b11
  refine (tknown_any (bk) p' key' j' (.int .i64 bn) u0 u1 u2 u3 u4 (.string bs) (.int .i64 bi) W1).mono ?_
  rintro e W2 ⟨rfl, hE⟩
  rw [hkb'.out]
  have HA2 := hid (HA1.out.keep hE id)
  have HB2 := hid (HB1.out.keep hE id)
  have HE2 := hid (HE1.out.ext hE)
  clear hE
  obtain ⟨a0, a1, a2, a3, a4, a5, a6, a7, a8, a9, a10, a11⟩ := blk12 HA2.out
  obtain ⟨b0, b1, b2, b3, b4, b5, b6, b7, b8, b9, b10, b11⟩ := blk12 HB2.out
  go_wp2_with fail
  go_ret
  exact HRES.out W2 HE2.out HRR.out
 have hkb1 : tknown bk = true := by cases h : tknown bk; exact absurd h hkb; rfl
 have hka' := hid hka1
 have hkb' := hid hkb1
 have hno : ¬ (tknown ak = false ∨ tknown bk = false) := fun h => h.elim hka hkb
 have h8a : ak = 8 ∨ ak = 9 := by
  rcases tkind_cases ak with h | h | ⟨h, _⟩
  ·exact .inl h
  ·exact .inr h
  ·exact absurd h hka
 have h8b : bk = 8 ∨ bk = 9 := by
  rcases tkind_cases bk with h | h | ⟨h, _⟩
  ·exact .inl h
  ·exact .inr h
  ·exact absurd h hkb
 have HNO := hid hno
 clear hka hkb hka1 hkb1 hno HRES
 rcases h8a with rfl | rfl
 ·have HRR := hid (show R = [(shiftL ai bk bi bn (Lib.runeCount bs : Nat) left, an)] from by rw [← HR.out]; unfold tturn; rw [if_neg HNO.out, if_pos rfl])
  clear HNO HR h8b
  obtain ⟨a0, a1, a2, a3, a4, a5, a6, a7, a8, a9, a10, a11⟩ := blk12 HA.out
  obtain ⟨b0, b1, b2, b3, b4, b5, b6, b7, b8, b9, b10, b11⟩ := blk12 HB.out
  go_enter Tryd.func58, Tryd.ntmps58
  go_wp2_with fail
  clear a0 a1 a2 a3 a4 a5 a6 a7 a8 a9 a10 a11 b0 b1 b2 b3 b4 b5 b6 b7 b8 b9 b10 b11
  refine (tknown_any (8) (.slice pA pn pc) (.string key) (.int .i64 j) (.int .i64 an) (U8 y0) (.int .i64 y1) (.string y2) (.slice A3 n3 c3) (.slice A4 n4 c4) (.string s) (.int .i64 ai) W0).mono ?_
  rintro e W1 ⟨rfl, hE⟩
  rw [hka'.out]
  have HA1 := hid (HA.out.keep hE id)
  have HB1 := hid (HB.out.keep hE id)
  have HE1 := hid (HE0.out.ext hE)
  clear hE
  obtain ⟨a0, a1, a2, a3, a4, a5, a6, a7, a8, a9, a10, a11⟩ := blk12 HA1.out
  obtain ⟨b0, b1, b2, b3, b4, b5, b6, b7, b8, b9, b10, b11⟩ := blk12 HB1.out
  go_wp2_with fail
  clear a0 a1 a2 a3 a4 a5 a6 a7 a8 a9 a10 a11 b0 b1 b2 b3 b4 b5 b6 b7 b8 b9 b10 b11
  refine (tknown_any (bk) p' key' j' (.int .i64 bn) u0 u1 u2 u3 u4 (.string bs) (.int .i64 bi) W1).mono ?_
  rintro e W2 ⟨rfl, hE⟩
  rw [hkb'.out]
  have HA2 := hid (HA1.out.keep hE id)
  have HB2 := hid (HB1.out.keep hE id)
  have HE2 := hid (HE1.out.ext hE)
  clear hE
  obtain ⟨a0, a1, a2, a3, a4, a5, a6, a7, a8, a9, a10, a11⟩ := blk12 HA2.out
  obtain ⟨b0, b1, b2, b3, b4, b5, b6, b7, b8, b9, b10, b11⟩ := blk12 HB2.out
  go_wp2_with fail
  clear a0 a1 a2 a3 a4 a5 a6 a7 a8 a9 a10 a11 b0 b1 b2 b3 b4 b5 b6 b7 b8 b9 b10 b11
  refine (shift_any 8 pA pn pc key j y0 y1 y2 A3 n3 c3 A4 n4 c4 s bk p' key' j' u0 u1 u2 u3 u4 bs ai an bi bn left hai hbi hbn hbs W2).mono ?_
  rintro e W3 ⟨rfl, hE⟩
  have HE3 := hid (HE2.out.ext hE)
  clear hE
  generalize shiftL ai bk bi bn (Lib.runeCount bs : Nat) left = sh at *
  go_wp2
  go_ret
  rw [HRR.out]
  exact text_one _ _ _ _ _ _ _ _ _ _ HE3.out rfl
 ·rcases h8b with rfl | rfl
  ·have HRR := hid (show R = splitL ai an bi (Lib.runeCount bs : Nat) from by rw [← HR.out]; unfold tturn; rw [if_neg HNO.out, if_neg (by decide), if_pos rfl])
   clear HNO HR
   obtain ⟨a0, a1, a2, a3, a4, a5, a6, a7, a8, a9, a10, a11⟩ := blk12 HA.out
   obtain ⟨b0, b1, b2, b3, b4, b5, b6, b7, b8, b9, b10, b11⟩ := blk12 HB.out
   go_enter Tryd.func58, Tryd.ntmps58
   go_wp2_with fail
   clear a0 a1 a2 a3 a4 a5 a6 a7 a8 a9 a10 a11 b0 b1 b2 b3 b4 b5 b6 b7 b8 b9 b10 b11
   refine (tknown_any (9) (.slice pA pn pc) (.string key) (.int .i64 j) (.int .i64 an) (U8 y0) (.int .i64 y1) (.string y2) (.slice A3 n3 c3) (.slice A4 n4 c4) (.string s) (.int .i64 ai) W0).mono ?_
   rintro e W1 ⟨rfl, hE⟩
   rw [hka'.out]
   have HA1 := hid (HA.out.keep hE id)
   have HB1 := hid (HB.out.keep hE id)
   have HE1 := hid (HE0.out.ext hE)
   clear hE
   obtain ⟨a0, a1, a2, a3, a4, a5, a6, a7, a8, a9, a10, a11⟩ := blk12 HA1.out
   obtain ⟨b0, b1, b2, b3, b4, b5, b6, b7, b8, b9, b10, b11⟩ := blk12 HB1.out
   go_wp2_with fail
   clear a0 a1 a2 a3 a4 a5 a6 a7 a8 a9 a10 a11 b0 b1 b2 b3 b4 b5 b6 b7 b8 b9 b10 b11
   refine (tknown_any (8) p' key' j' (.int .i64 bn) u0 u1 u2 u3 u4 (.string bs) (.int .i64 bi) W1).mono ?_
   rintro e W2 ⟨rfl, hE⟩
   rw [hkb'.out]
   have HA2 := hid (HA1.out.keep hE id)
   have HB2 := hid (HB1.out.keep hE id)
   have HE2 := hid (HE1.out.ext hE)
   clear hE
   obtain ⟨a0, a1, a2, a3, a4, a5, a6, a7, a8, a9, a10, a11⟩ := blk12 HA2.out
   obtain ⟨b0, b1, b2, b3, b4, b5, b6, b7, b8, b9, b10, b11⟩ := blk12 HB2.out
   go_wp2_with fail
   clear a0 a1 a2 a3 a4 a5 a6 a7 a8 a9 a10 a11 b0 b1 b2 b3 b4 b5 b6 b7 b8 b9 b10 b11
   refine (split_any 9 pA pn pc key j y0 y1 y2 A3 n3 c3 A4 n4 c4 s (U8 8) p' key' j' u0 u1 u2 u3 u4 bs ai an bi bn hai han hbi hbs W2).mono ?_
   rintro e W3 ⟨v, rfl, h1, h2⟩
   obtain ⟨A9, c9, rfl, _⟩ := h1.shape
   have HF := hid (TextIs.from_ ⟨_, rfl, h1, h2⟩ HE2.out HOK.out)
   clear h1 h2
   generalize (splitL ai an bi (Lib.runeCount bs : Nat)).length = q at *
   go_wp2
   go_ret
   rw [HRR.out]
   exact HF.out
  ·have HRR := hid (show R = (if (shrinkL ai an bi bn).2 = 0 then [] else [shrinkL ai an bi bn]) from by rw [← HR.out]; unfold tturn; rw [if_neg HNO.out, if_neg (by decide), if_neg (by decide)])
   clear HNO HR
   obtain ⟨a0, a1, a2, a3, a4, a5, a6, a7, a8, a9, a10, a11⟩ := blk12 HA.out
   obtain ⟨b0, b1, b2, b3, b4, b5, b6, b7, b8, b9, b10, b11⟩ := blk12 HB.out
   go_enter Tryd.func58, Tryd.ntmps58
   go_wp2_with fail
   clear a0 a1 a2 a3 a4 a5 a6 a7 a8 a9 a10 a11 b0 b1 b2 b3 b4 b5 b6 b7 b8 b9 b10 b11
   refine (tknown_any (9) (.slice pA pn pc) (.string key) (.int .i64 j) (.int .i64 an) (U8 y0) (.int .i64 y1) (.string y2) (.slice A3 n3 c3) (.slice A4 n4 c4) (.string s) (.int .i64 ai) W0).mono ?_
   rintro e W1 ⟨rfl, hE⟩
   rw [hka'.out]
   have HA1 := hid (HA.out.keep hE id)
   have HB1 := hid (HB.out.keep hE id)
   have HE1 := hid (HE0.out.ext hE)
   clear hE
   obtain ⟨a0, a1, a2, a3, a4, a5, a6, a7, a8, a9, a10, a11⟩ := blk12 HA1.out
   obtain ⟨b0, b1, b2, b3, b4, b5, b6, b7, b8, b9, b10, b11⟩ := blk12 HB1.out
   go_wp2_with fail
   clear a0 a1 a2 a3 a4 a5 a6 a7 a8 a9 a10 a11 b0 b1 b2 b3 b4 b5 b6 b7 b8 b9 b10 b11
   refine (tknown_any (9) p' key' j' (.int .i64 bn) u0 u1 u2 u3 u4 (.string bs) (.int .i64 bi) W1).mono ?_
   rintro e W2 ⟨rfl, hE⟩
   rw [hkb'.out]
   have HA2 := hid (HA1.out.keep hE id)
   have HB2 := hid (HB1.out.keep hE id)
   have HE2 := hid (HE1.out.ext hE)
   clear hE
   obtain ⟨a0, a1, a2, a3, a4, a5, a6, a7, a8, a9, a10, a11⟩ := blk12 HA2.out
   obtain ⟨b0, b1, b2, b3, b4, b5, b6, b7, b8, b9, b10, b11⟩ := blk12 HB2.out
   go_wp2_with fail
   clear a0 a1 a2 a3 a4 a5 a6 a7 a8 a9 a10 a11 b0 b1 b2 b3 b4 b5 b6 b7 b8 b9 b10 b11
   refine (shrink_any (U8 9) (.slice pA pn pc) (.string key) (.int .i64 j) (U8 y0) (.int .i64 y1) (.string y2) (.slice A3 n3 c3) (.slice A4 n4 c4) (.string s) (U8 9) p' key' j' u0 u1 u2 u3 u4 (.string bs) ai an bi bn hai han hbi hbn W2).mono ?_
   rintro e W3 ⟨v, rfl, h1, h2⟩
   obtain ⟨A9, c9, rfl, _⟩ := h1.shape
   have HF := hid (TextIs.from_ ⟨_, rfl, h1, h2⟩ HE2.out HOK.out)
   clear h1 h2
   generalize (if (shrinkL ai an bi bn).2 = 0 then ([] : List (Int × Int)) else [shrinkL ai an bi bn]) = R2 at *
   generalize R2.length = q at *
   go_wp2
   go_ret
   rw [HRR.out]
   exact HF.out
end Go.Proofs.YtioplgfopillnaaDoor
namespace Go.Proofs
open Go.Shelf
def Tryd.laysDR_ren : Go.Shelf.Ren := ⟨fun | 197 => 96 | 260 => 103 | n => n, fun | 9 => 9 | 21 => 21 | 3 => 3 | 4 => 4 | 5 => 5 | 105 => 111 | 119 => 120 | 0 => 0 | 46 => 124 | 139 => 123 | 138 => 122 | n => n, fun | 3 => 0 | 4 => 1 | n => n⟩
theorem Tryd.laysDR : Go.Proofs.Lays.n197 Tryd.prog Tryd.laysDR_ren := {
 mixed := by kernel_rfl
 f197 := Tryd.func96.trans (congrArg some (by kernel_rfl))
 f260 := Tryd.func103.trans (congrArg some (by kernel_rfl))
 t0 := Tryd.underlying0
 a0 := Tryd.isAgg0
 z0 := Tryd.sizeOf0
 v0 := Tryd.zeroValue0
 t3 := Tryd.underlying3
 a3 := Tryd.isAgg3
 z3 := Tryd.sizeOf3
 v3 := Tryd.zeroValue3
 t4 := Tryd.underlying4
 a4 := Tryd.isAgg4
 z4 := Tryd.sizeOf4
 v4 := Tryd.zeroValue4
 t5 := Tryd.underlying5
 a5 := Tryd.isAgg5
 z5 := Tryd.sizeOf5
 v5 := Tryd.zeroValue5
 t9 := Tryd.underlying9
 a9 := Tryd.isAgg9
 z9 := Tryd.sizeOf9
 v9 := Tryd.zeroValue9
 t21 := Tryd.underlying21
 a21 := Tryd.isAgg21
 z21 := Tryd.sizeOf21
 v21 := Tryd.zeroValue21
 t46 := Tryd.underlying124
 a46 := Tryd.isAgg124
 z46 := Tryd.sizeOf124
 v46 := Tryd.zeroValue124
 t105 := Tryd.underlying111
 a105 := Tryd.isAgg111
 z105 := Tryd.sizeOf111
 v105 := Tryd.zeroValue111
 t119 := Tryd.underlying120
 a119 := Tryd.isAgg120
 z119 := Tryd.sizeOf120
 t138 := Tryd.underlying122
 a138 := Tryd.isAgg122
 z138 := Tryd.sizeOf122
 v138 := Tryd.zeroValue122
 t139 := Tryd.underlying123
 a139 := Tryd.isAgg123
 z139 := Tryd.sizeOf123
 v139 := Tryd.zeroValue123
 g3 := by kernel_rfl
 g4 := by kernel_rfl }
end Go.Proofs
namespace Go.Proofs.YtioplgfopillnaaDoor
open Go.RowKit
def DecAny (w0 : World) : Prop := ∀ s : ByteArray, ∀ w', Ext w0 w' → Calls Tryd.prog 96 #[.string s] w' fun e w'' => e = .returned (.tuple #[.int .i32 (Lib.decodeGo s).1, .int .i64 (Lib.decodeGo s).2]) ∧ Ext w' w''
theorem DecAny.ext {w0 w : World} (h : DecAny w0) (he : Ext w0 w) : DecAny w := fun s w' h' => h s w' (he.ext h')
theorem dec_any {w0 : World} (hT : Lib.Utf8Tabs (Tryd.laysDR_ren.g 3) (Tryd.laysDR_ren.g 4) w0) : DecAny w0 := fun s w' he =>
 (Any.utf8_DecodeRuneInString Tryd.laysDR s w' (Utf8Tabs_below hT he.toBelow)).mono fun e w'' h => ⟨h.1, Keep.of_below h.2 fun k h1 h2 => absurd h1 (Nat.not_lt.2 h2)⟩
theorem count_step (s : ByteArray) (i : Nat) (h : i < s.size) : Lib.runeCountFrom s (s.size - i) i = 1 + Lib.runeCountFrom s (s.size - (i + (Utf8.decode s i).2)) (i + (Utf8.decode s i).2) := by
 obtain ⟨f, hf⟩ : ∃ f, s.size - i = f + 1 := ⟨s.size - i - 1, by omega⟩
 have hw := Lib.decode_width_pos s i h
 rw [hf, Lib.runeCountFrom, if_pos h]
 congr 1
 exact Lib.fuel_enough s _ _ _ (by omega) (by omega)
theorem ty_ints : TyInfo Tryd.prog 94 3 1 8 := by
 obtain ⟨i, h1, h2, h3, h4⟩ := info_parts (show (Tryd.prog.info? 3).map (fun i => (i.zero, i.size, i.bytes)) = some (some (.int .i64 0), 1, 8) from by kernel_rfl)
 exact ⟨Tryd.underlying94, i, _, h1, h2, h3, h4, rfl⟩
theorem dec_width (s : ByteArray) (i : Nat) (h : i < s.size) : (Lib.decodeGo (s.extract i s.size)).2 = (Utf8.decode s i).2 ∧ (Utf8.decode s i).2 ≤ s.size - i ∧ 1 ≤ (Utf8.decode s i).2 := by
 have hz := Lib.tail_size s i
 have h1 : (Lib.decodeGo (s.extract i s.size)).2 = (Utf8.decode s i).2 := by
  unfold Lib.decodeGo
  rw [if_neg (by omega), Lib.tail_decode, Nat.add_zero]
 have h2 := Lib.decodeGo_le_size (s.extract i s.size)
 exact ⟨h1, by omega, Lib.decode_width_pos s i h⟩
set_option maxRecDepth 100000 in
theorem cuts_any (s : ByteArray) (hs : s.size ≤ 100000) (w : World) (hD : DecAny w) :
  Calls Tryd.prog 73 #[.string s] w fun e w' => ∃ A c, e = .returned (.slice A (Lib.runeCount s + 1) c) ∧ Ext w w' := by
 have HD := hid hD
 clear hD
 go_enter Tryd.func73, Tryd.ntmps73
 go_wp2
 go_loopw [3, 4] (fun o p wr => ∃ (l : List Int) (i : Nat), i ≤ s.size ∧ p = .int .i64 (i : Int) ∧ l.length + Lib.runeCountFrom s (s.size - i) i = Lib.runeCount s ∧ Own (EInt .i64) wr w.heap.size 3 (fun _ => False) o l ∧ Ext w wr) (fun _ p _ => s.size - (intOf p).toNat)
 case atStart => exact ⟨[], 0, Nat.zero_le _, rfl, by simp [Lib.runeCount], Own.nil _ _ _ _, Keep.refl _ _⟩
 case round =>
  obtain ⟨l, i, hi, rfl, hcnt, ho, hE⟩ := hrel
  obtain ⟨Ao, co, rfl, _, _⟩ := ho.shape
  have hle := Lib.runeCount_le s
  have hll : l.length ≤ s.size := by omega
  by_cases hlt : i < s.size
  ·have hw := dec_width s i hlt
   have hst := count_step s i hlt
   obtain ⟨k, hk⟩ : ∃ k, (Utf8.decode s i).2 = k := ⟨_, rfl⟩
   rw [hk] at hw hst
   have HC := hid (show (l ++ [(i : Int)]).length + Lib.runeCountFrom s (s.size - (i + k)) (i + k) = Lib.runeCount s from by rw [List.length_append, List.length_singleton]; omega)
   obtain ⟨W1, hW1⟩ : ∃ W1, wr.alloc (.cells #[.int .i64 (i : Int)] 3) = W1 := ⟨_, rfl⟩
   have hE1 : Ext wr W1 := by rw [← hW1]; exact (Keep.refl _ _).alloc _
   have hrow : RowS W1 (fun k => k = wr.heap.size) 1 (.slice (some ⟨wr.heap.size, 0, none⟩) 1 1) 1 [.int .i64 (i : Int)] := by
    rw [← hW1]; exact RowS.new (w := wr) (t := 3) (sz := 1) (cs := [.int .i64 (i : Int)]) (n := 1) rfl (by simp [maxLen])
   have HO := hid (ho.ext (EInt.ok .i64) hE1)
   have HRW := hid hrow
   have HW1 := hid hW1
   have HE1 := hid (hE.ext hE1)
   have HL := hid (fun g (e : (Value.slice Ao l.length co).ownBlock = some g) => (ho.lt e).1)
   have hw1 := hw.1
   have hw2 := hw.2.1
   have hw3 := hw.2.2
   have hsl : (i : Int) < s.size := by omega
   clear hcnt ho hE hE1 hrow hk hst hw hW1
   go_wp2_with (at_builtin; refine wpList_own_append2 (P := Tryd.prog) (E := EInt .i64) (v := .slice Ao l.length co) (ys := [(i : Int)]) _ rfl (.tmp 11) (.tmp 13) (EInt.ok .i64) ty_ints rfl rfl rfl (HW1.out ▸ HO.out) (HW1.out ▸ HRW.out) (Cells.single (S := fun _ => False) rfl) ?f1 ?f2 ?f3 ?f4 ?_)
   case f1 => exact fun g _ => ⟨id, id⟩
   case f2 => simp only [List.length_singleton]; omega
   case f3 => simp only [List.length_singleton, maxLen]; omega
   case f4 => rw [HW1.out]; exact HE1.out.size
   intro v2 w2 hown2 hk2 hb2
   rw [HW1.out] at hk2
   obtain ⟨A2, c2, e2, _⟩ := hown2.shape
   subst e2
   have HO2 := hid (hown2.more (S' := fun _ => False) (EInt.ok .i64) fun _ _ h => by simp at h)
   have HE2 := hid (HE1.out.trans hk2 fun k hk e => by have := HL.out k e; omega)
   clear hown2 hk2 hb2 HO HRW
   rw [show (l ++ [(i : Int)]).length = l.length + 1 from by simp] at HO2 ⊢
   go_wp2_with fail
   refine (HD.out _ w2 HE2.out).mono ?_
   rintro e w3 ⟨rfl, hE3⟩
   rw [hw1]
   have HE3 := hid (HE2.out.ext hE3)
   have HO3 := hid (HO2.out.ext (EInt.ok .i64) hE3)
   generalize (Lib.decodeGo (s.extract i s.size)).1 = rn at *
   clear hE3 hw1 HO2
   go_wp2
   exact ⟨⟨l ++ [(i : Int)], i + k, by omega, by go_num, HC.out, HO3.out, HE3.out⟩, by simp [intOf]; omega⟩
  ·obtain rfl : i = s.size := by omega
   have hc0 : l.length = Lib.runeCount s := by rw [Lib.runeCountFrom_end s _ _ (by omega)] at hcnt; exact hcnt
   obtain ⟨W1, hW1⟩ : ∃ W1, wr.alloc (.cells #[.int .i64 (s.size : Int)] 3) = W1 := ⟨_, rfl⟩
   have hE1 : Ext wr W1 := by rw [← hW1]; exact (Keep.refl _ _).alloc _
   have hrow : RowS W1 (fun k => k = wr.heap.size) 1 (.slice (some ⟨wr.heap.size, 0, none⟩) 1 1) 1 [.int .i64 (s.size : Int)] := by
    rw [← hW1]; exact RowS.new (w := wr) (t := 3) (sz := 1) (cs := [.int .i64 (s.size : Int)]) (n := 1) rfl (by simp [maxLen])
   have HO := hid (ho.ext (EInt.ok .i64) hE1)
   have HRW := hid hrow
   have HW1 := hid hW1
   have HE1 := hid (hE.ext hE1)
   have HL := hid (fun g (e : (Value.slice Ao l.length co).ownBlock = some g) => (ho.lt e).1)
   have HC0 := hid hc0
   clear hcnt ho hE hE1 hrow hW1 hc0
   go_wp2_with (at_builtin; refine wpList_own_append2 (P := Tryd.prog) (E := EInt .i64) (v := .slice Ao l.length co) (ys := [(s.size : Int)]) _ rfl (.tmp 25) (.tmp 28) (EInt.ok .i64) ty_ints rfl rfl rfl (HW1.out ▸ HO.out) (HW1.out ▸ HRW.out) (Cells.single (S := fun _ => False) rfl) ?f1 ?f2 ?f3 ?f4 ?_)
   case f1 => exact fun g _ => ⟨id, id⟩
   case f2 => simp only [List.length_singleton]; omega
   case f3 => simp only [List.length_singleton, maxLen]; omega
   case f4 => rw [HW1.out]; exact HE1.out.size
   intro v2 w2 hown2 hk2 hb2
   rw [HW1.out] at hk2
   obtain ⟨A2, c2, e2, _⟩ := hown2.shape
   subst e2
   have HE2 := hid (HE1.out.trans hk2 fun k hk e => by have := HL.out k e; omega)
   rw [show (l ++ [(s.size : Int)]).length = l.length + 1 from by simp]
   clear hown2 hk2 hb2 HO HRW
   go_wp2
   go_ret
   exact ⟨A2, c2, by rw [← HC0.out]; rfl, HE2.out⟩
theorem rlen_any (s : ByteArray) (hs : s.size ≤ 100000) (w : World) (hD : DecAny w) :
  Calls Tryd.prog 66 #[.string s] w fun e w' => e = .returned (.int .i64 (Lib.runeCount s : Nat)) ∧ Ext w w' := by
 have hle := Lib.runeCount_le s
 have HC := hid (cuts_any s hs w hD)
 clear hD
 go_enter Tryd.func66, Tryd.ntmps66
 go_wp2_with fail
 refine HC.out.mono ?_
 rintro e w1 ⟨A, c, rfl, hE⟩
 have HE := hid hE
 generalize hn : Lib.runeCount s = n at *
 have HN := hid hn
 clear hE HC hn
 go_wp2
 go_ret
 exact ⟨by rw [HN.out]; rfl, HE.out⟩
theorem next_asc (s : ByteArray) (ha : ∀ (j : Nat) (h : j < s.size), (s[j]'h).toNat < 128) (pos : Nat) (hp : pos < s.size) : (Utf8.decode s pos).2 = 1 := by rw [decode_ascii s pos hp (ha pos hp)]
def Asc9 (s : ByteArray) : Prop := (∀ (j : Nat) (h : j < s.size), (s[j]'h).toNat < 128) ∧ s.size ≤ 1000
theorem Asc9.count {s : ByteArray} (h : Asc9 s) : Lib.runeCount s = s.size := Lib.runeCount_ascii s h.1
def idxL (n : Nat) : List Int := (List.range n).map fun (k : Nat) => (k : Int)
theorem idxL_len (n : Nat) : (idxL n).length = n := by simp [idxL]
theorem idxL_next (n : Nat) : idxL n ++ [(n : Int)] = idxL (n + 1) := by simp [idxL, List.range_succ]
theorem idxL_get {n k : Nat} (h : k < n) : (idxL n)[k]? = some (k : Int) := by simp [idxL, h]
set_option maxRecDepth 100000 in
theorem cuts_asc (s : ByteArray) (hs : Asc9 s) (w : World) (hD : DecAny w) :
  Calls Tryd.prog 73 #[.string s] w fun e w' => ∃ A c, e = .returned (.slice A (s.size + 1) c) ∧ Sl (EInt .i64) w' (fun _ => True) (.slice A (s.size + 1) c) (idxL (s.size + 1)) ∧ Ext w w' := by
 have HD := hid hD
 have HS := hid hs
 have hsz := hs.2
 clear hD hs
 go_enter Tryd.func73, Tryd.ntmps73
 go_wp2
 go_loopw [3, 4] (fun o p wr => ∃ (i : Nat), i ≤ s.size ∧ p = .int .i64 (i : Int) ∧ Own (EInt .i64) wr w.heap.size 3 (fun _ => False) o (idxL i) ∧ Ext w wr) (fun _ p _ => s.size - (intOf p).toNat)
 case atStart => exact ⟨0, Nat.zero_le _, rfl, Own.nil _ _ _ _, Keep.refl _ _⟩
 case round =>
  obtain ⟨i, hi, rfl, ho, hE⟩ := hrel
  obtain ⟨Ao, co, rfl, _, _⟩ := ho.shape
  rw [idxL_len] at ho ⊢
  by_cases hlt : i < s.size
  ·have hw := dec_width s i hlt
   rw [next_asc s HS.out.1 i hlt] at hw
   obtain ⟨W1, hW1⟩ : ∃ W1, wr.alloc (.cells #[.int .i64 (i : Int)] 3) = W1 := ⟨_, rfl⟩
   have hE1 : Ext wr W1 := by rw [← hW1]; exact (Keep.refl _ _).alloc _
   have hrow : RowS W1 (fun k => k = wr.heap.size) 1 (.slice (some ⟨wr.heap.size, 0, none⟩) 1 1) 1 [.int .i64 (i : Int)] := by
    rw [← hW1]; exact RowS.new (w := wr) (t := 3) (sz := 1) (cs := [.int .i64 (i : Int)]) (n := 1) rfl (by simp [maxLen])
   have HO := hid (ho.ext (EInt.ok .i64) hE1)
   have HRW := hid hrow
   have HW1 := hid hW1
   have HE1 := hid (hE.ext hE1)
   have HL := hid (fun g (e : (Value.slice Ao i co).ownBlock = some g) => (ho.lt e).1)
   have hw1 := hw.1
   have hw2 := hw.2.1
   have hw3 := hw.2.2
   have hsl : (i : Int) < s.size := by omega
   clear ho hE hE1 hrow hw hW1
   go_wp2_with (at_builtin; refine wpList_own_append2 (P := Tryd.prog) (E := EInt .i64) (v := .slice Ao i co) (xs := idxL i) (ys := [(i : Int)]) _ rfl (.tmp 11) (.tmp 13) (EInt.ok .i64) ty_ints rfl rfl rfl (HW1.out ▸ HO.out) (HW1.out ▸ HRW.out) (Cells.single (S := fun _ => False) rfl) ?f1 ?f2 ?f3 ?f4 ?_)
   case f1 => exact fun g _ => ⟨id, id⟩
   case f2 => rw [idxL_len]; simp only [List.length_singleton]; omega
   case f3 => rw [idxL_len]; simp only [List.length_singleton, maxLen]; omega
   case f4 => rw [HW1.out]; exact HE1.out.size
   intro v2 w2 hown2 hk2 hb2
   rw [HW1.out] at hk2
   rw [idxL_next] at hown2
   obtain ⟨A2, c2, e2, _⟩ := hown2.shape
   subst e2
   have HO2 := hid (hown2.more (S' := fun _ => False) (EInt.ok .i64) fun _ _ h => by simp at h)
   have HE2 := hid (HE1.out.trans hk2 fun k hk e => by have := HL.out k e; omega)
   clear hown2 hk2 hb2 HO HRW
   rw [idxL_len] at HO2 ⊢
   go_wp2_with fail
   refine (HD.out _ w2 HE2.out).mono ?_
   rintro e w3 ⟨rfl, hE3⟩
   rw [hw1]
   have HE3 := hid (HE2.out.ext hE3)
   have HO3 := hid (HO2.out.ext (EInt.ok .i64) hE3)
   generalize (Lib.decodeGo (s.extract i s.size)).1 = rn at *
   clear hE3 hw1 HO2
   go_wp2
   exact ⟨⟨i + 1, by omega, by go_num, HO3.out, HE3.out⟩, by simp [intOf]; omega⟩
  ·obtain rfl : i = s.size := by omega
   obtain ⟨W1, hW1⟩ : ∃ W1, wr.alloc (.cells #[.int .i64 (s.size : Int)] 3) = W1 := ⟨_, rfl⟩
   have hE1 : Ext wr W1 := by rw [← hW1]; exact (Keep.refl _ _).alloc _
   have hrow : RowS W1 (fun k => k = wr.heap.size) 1 (.slice (some ⟨wr.heap.size, 0, none⟩) 1 1) 1 [.int .i64 (s.size : Int)] := by
    rw [← hW1]; exact RowS.new (w := wr) (t := 3) (sz := 1) (cs := [.int .i64 (s.size : Int)]) (n := 1) rfl (by simp [maxLen])
   have HO := hid (ho.ext (EInt.ok .i64) hE1)
   have HRW := hid hrow
   have HW1 := hid hW1
   have HE1 := hid (hE.ext hE1)
   have HL := hid (fun g (e : (Value.slice Ao s.size co).ownBlock = some g) => (ho.lt e).1)
   clear ho hE hE1 hrow hW1
   go_wp2_with (at_builtin; refine wpList_own_append2 (P := Tryd.prog) (E := EInt .i64) (v := .slice Ao s.size co) (xs := idxL s.size) (ys := [(s.size : Int)]) _ rfl (.tmp 25) (.tmp 28) (EInt.ok .i64) ty_ints rfl rfl rfl (HW1.out ▸ HO.out) (HW1.out ▸ HRW.out) (Cells.single (S := fun _ => False) rfl) ?f1 ?f2 ?f3 ?f4 ?_)
   case f1 => exact fun g _ => ⟨id, id⟩
   case f2 => rw [idxL_len]; simp only [List.length_singleton]; omega
   case f3 => rw [idxL_len]; simp only [List.length_singleton, maxLen]; omega
   case f4 => rw [HW1.out]; exact HE1.out.size
   intro v2 w2 hown2 hk2 hb2
   rw [HW1.out] at hk2
   rw [idxL_next] at hown2
   obtain ⟨A2, c2, e2, _⟩ := hown2.shape
   subst e2
   have HO2 := hid (hown2.more (S' := fun _ => False) (EInt.ok .i64) fun _ _ h => by simp at h)
   have HE2 := hid (HE1.out.trans hk2 fun k hk e => by have := HL.out k e; omega)
   clear hown2 hk2 hb2 HO HRW
   rw [idxL_len] at HO2 ⊢
   go_wp2
   go_ret
   exact ⟨A2, c2, rfl, (HO2.out.sl (EInt.ok .i64)).more (EInt.ok .i64) fun _ _ _ => trivial, HE2.out⟩
end Go.Proofs.YtioplgfopillnaaDoor
