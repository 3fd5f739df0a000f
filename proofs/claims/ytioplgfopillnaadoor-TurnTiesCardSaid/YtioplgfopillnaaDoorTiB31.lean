/- TextE, TextF, TurnQ: laid together. -/
import Derived.Test.YtioplgfopillnaaDoorTiB30
import Derived.Test.YtioplgfopillnaaDoorTiB28
import Derived.Test.YtioplgfopillnaaDoorTiB29
/- text.shift by contract. -/
set_option linter.unusedSimpArgs false
set_option linter.unusedVariables false
namespace Go.Proofs.YtioplgfopillnaaDoor
open Go.RowKit
set_option linter.unusedVariables false

set_option maxRecDepth 100000 in
set_option maxHeartbeats 6400000 in
theorem shift_any (k : UInt8) (pA : Option Addr) (pn pc : Nat) (key : ByteArray) (j : Int) (y0 : UInt8) (y1 : Int) (y2 : ByteArray) (A3 : Option Addr) (n3 c3 : Nat) (A4 : Option Addr) (n4 c4 : Nat) (s : ByteArray) (bk : UInt8) (p' key' j' u0 u1 u2 u3 u4 : Value) (bs : ByteArray) (ai an bi bn : Int) (left : Bool) (hai : Tm ai) (hbi : Tm bi) (hbn : Tm bn) (hbs : bs.size ≤ 140737488355328) (w : World) :
    Calls Tryd.prog 85 #[tcV (U8 k) (.slice pA pn pc) (.string key) ai (.int .i64 j) an (U8 y0) (.int .i64 y1) (.string y2) (.slice A3 n3 c3) (.slice A4 n4 c4) (.string s), tcV (U8 bk) p' key' bi j' bn u0 u1 u2 u3 u4 (.string bs), .bool left] w
      fun e w' => e = .returned (tcV (U8 k) (.slice pA pn pc) (.string key) (shiftL ai bk bi bn (Lib.runeCount bs : Nat) left) (.int .i64 j) an (U8 y0) (.int .i64 y1) (.string y2) (.slice A3 n3 c3) (.slice A4 n4 c4) (.string s)) ∧ Ext w w' := by
  obtain ⟨hai1, hai2⟩ := hai
  obtain ⟨hbn1, hbn2⟩ := hbn
  obtain ⟨hbi1, hbi2⟩ := hbi
  obtain ⟨Wb, hWb⟩ : ∃ Wb, (w.alloc (.cells (tcA (U8 k) (.slice pA pn pc) (.string key) ai (.int .i64 j) an (U8 y0) (.int .i64 y1) (.string y2) (.slice A3 n3 c3) (.slice A4 n4 c4) (.string s)) TCOMP)).alloc (.cells (tcA (U8 bk) p' key' bi j' bn u0 u1 u2 u3 u4 (.string bs)) TCOMP) = Wb := ⟨_, rfl⟩
  have hzb : Wb.heap.size = w.heap.size + 2 := by rw [← hWb]; simp
  obtain ⟨W0, hW0⟩ : ∃ W0, Wb.alloc (.cells #[.int .u8 0, .slice none 0 0, .string ⟨#[]⟩, .int .i64 0, .int .i64 0, .int .i64 0, .int .u8 0, .int .i64 0, .string ⟨#[]⟩, .slice none 0 0, .slice none 0 0, .string ⟨#[]⟩] TCOMP) = W0 := ⟨_, rfl⟩
  have hE0 : Ext w W0 := by rw [← hW0, ← hWb]; exact (((Keep.refl _ _).alloc _).alloc _).alloc _
  have hsz : W0.heap.size = w.heap.size + 3 := by rw [← hW0]; simp [hzb]
  have ha : Blk W0 w.heap.size TCOMP (tcA (U8 k) (.slice pA pn pc) (.string key) ai (.int .i64 j) an (U8 y0) (.int .i64 y1) (.string y2) (.slice A3 n3 c3) (.slice A4 n4 c4) (.string s)) := by rw [← hW0, ← hWb]; exact ((Blk.new w TCOMP _).alloc _).alloc _
  have hb : Blk W0 (w.heap.size + 1) TCOMP (tcA (U8 bk) p' key' bi j' bn u0 u1 u2 u3 u4 (.string bs)) := by
    have := (Blk.new (w.alloc (.cells (tcA (U8 k) (.slice pA pn pc) (.string key) ai (.int .i64 j) an (U8 y0) (.int .i64 y1) (.string y2) (.slice A3 n3 c3) (.slice A4 n4 c4) (.string s)) TCOMP)) TCOMP (tcA (U8 bk) p' key' bi j' bn u0 u1 u2 u3 u4 (.string bs))).alloc (.cells #[.int .u8 0, .slice none 0 0, .string ⟨#[]⟩, .int .i64 0, .int .i64 0, .int .i64 0, .int .u8 0, .int .i64 0, .string ⟨#[]⟩, .slice none 0 0, .slice none 0 0, .string ⟨#[]⟩] TCOMP)
    rw [World.size_alloc] at this
    rw [← hW0, ← hWb]; exact this
  have hc : Blk W0 (w.heap.size + 2) TCOMP #[.int .u8 0, .slice none 0 0, .string ⟨#[]⟩, .int .i64 0, .int .i64 0, .int .i64 0, .int .u8 0, .int .i64 0, .string ⟨#[]⟩, .slice none 0 0, .slice none 0 0, .string ⟨#[]⟩] := by rw [← hW0, ← hzb]; exact Blk.new _ _ _
  have hrb : Lib.runeCount bs ≤ bs.size := Lib.runeCount_le bs
  obtain ⟨rb, hr⟩ : ∃ rb : Nat, Lib.runeCount bs = rb := ⟨_, rfl⟩
  rw [hr] at hrb ⊢
  have HRB := hid hr
  have HLEN := hid (tlen_any bs hbs)
  have HW0 := hid (show ((w.alloc (.cells (tcA (U8 k) (.slice pA pn pc) (.string key) ai (.int .i64 j) an (U8 y0) (.int .i64 y1) (.string y2) (.slice A3 n3 c3) (.slice A4 n4 c4) (.string s)) TCOMP)).alloc (.cells (tcA (U8 bk) p' key' bi j' bn u0 u1 u2 u3 u4 (.string bs)) TCOMP)).alloc (.cells #[.int .u8 0, .slice none 0 0, .string ⟨#[]⟩, .int .i64 0, .int .i64 0, .int .i64 0, .int .u8 0, .int .i64 0, .string ⟨#[]⟩, .slice none 0 0, .slice none 0 0, .string ⟨#[]⟩] TCOMP) = W0 from by rw [hWb, hW0])
  have HE0 := hid hE0
  have HA := hid ha
  have HB := hid hb
  have HC := hid hc
  have HSZ := hid hsz
  obtain ⟨sh, hsh⟩ : ∃ sh, shiftL ai bk bi bn rb left = sh := ⟨_, rfl⟩
  rw [hsh]
  have HSH := hid hsh
  clear hW0 hE0 ha hb hc hsz hr hWb hzb hsh
  by_cases hk : bk = 8
  · subst hk
    by_cases hm : bi < ai ∨ (bi = ai ∧ left = false)
    · have hs2 : sh = ai + rb := by rw [← HSH.out]; unfold shiftL; rw [if_pos rfl, if_pos hm]
      have HS2 := hid hs2
      have hmm : bi < ai ∨ (¬ bi < ai ∧ (bi == ai) = true ∧ left = false) := by
        rcases hm with h | ⟨h1, h2⟩
        · exact .inl h
        · exact .inr ⟨by omega, by simpa using h1, h2⟩
      clear hs2 hm
      rcases hmm with hm | ⟨hm1, hm2, rfl⟩
      all_goals
        go_enter Tryd.func85, Tryd.ntmps85
        go_wp2_with fail
        rw [HW0.out]
        obtain ⟨a0, a1, a2, a3, a4, a5, a6, a7, a8, a9, a10, a11⟩ := blk12 HA.out
        have b11 := HB.out.cell 11
        simp only [List.getElem?_toArray, List.getElem?_cons_succ, List.getElem?_cons_zero] at b11
        refine wp_region_parts [0, 2] [1, 3, 4, 5] [6, 7] (specOf [(4, fun v w => v = .int .i64 (rb : Nat))]) (fun w' => Ext W0 w') (stable_cons (fun v w w' h he => h) stable_nil) (stableC_ext _) (by kernel_rfl) (by kernel_rfl) (Keep.drew (Keep.refl _ _)) ?_
        iterate 2
          (try simp only [Act.put, List.setIfInBounds_toArray, List.set_cons_zero, List.set_cons_succ])
          refine pure_run rfl rfl ?_
          apply Exists.intro
          refine ⟨fun w' => ?_, ?_⟩
          · go_simp
            rfl
        refine pure_nil ?_
        iterate 2
          (try simp only [Act.put, List.setIfInBounds_toArray, List.set_cons_zero, List.set_cons_succ])
          refine growP_run rfl rfl rfl ?_
          apply Exists.intro
          refine ⟨fun w' hC hK => ?_, ?_⟩
          · have a3 := (hC.cell (lt_of_cell a3) id).trans a3
            have b11 := (hC.cell (lt_of_cell b11) id).trans b11
            go_simp
            rfl
        (try simp only [Act.put, List.setIfInBounds_toArray, List.set_cons_zero, List.set_cons_succ])
        refine growP_eff rfl rfl rfl (fun w' hC hK => ?_) (fun v4 hv4 => ?_)
        · unfold growAt
          go_simp
          refine grow_call ((HLEN.out w').mono ?_)
          rintro e w'' ⟨rfl, h1⟩
          exact ⟨_, rfl, h1, by rw [HRB.out]⟩
        obtain ⟨_, _, rfl⟩ := hv4.head
        clear hv4
        iterate 1
          (try simp only [Act.put, List.setIfInBounds_toArray, List.set_cons_zero, List.set_cons_succ])
          refine growP_run rfl rfl rfl ?_
          apply Exists.intro
          refine ⟨fun w' hC hK => ?_, ?_⟩
          · go_simp
            rfl
        refine growP_nil fun W1 hC hK => ?_
        have hC : Ext W0 W1 := hC
        have hA1 := HA.out.keep hC id
        have q3 := hA1.cell 3
        have f3 := hA1.frozen 3
        simp only [List.getElem?_toArray, List.getElem?_cons_succ, List.getElem?_cons_zero] at q3
        have hC1 := HC.out.keep hC id
        have hkA : Keep (· = w.heap.size) W1 (W1.setCell ⟨w.heap.size, 3, none⟩ (.int .i64 (ai + rb))) := (Keep.refl _ _).set1 3 _
        have HA2 := hid (hA1.set_ 3 (.int .i64 (ai + rb)))
        have HC2 := hid (hC1.keep hkA (by omega))
        have HE2 := hid (HE0.out.trans ((hC.mono fun _ _ h => h.elim : Keep (· = w.heap.size) W0 W1).trans hkA fun _ _ h => h) fun q hq e => by omega)
        clear hC hK hA1 hC1 hkA a0 a1 a2 a3 a4 a5 a6 a7 a8 a9 a10 a11 b11
        change wpList _ _ _ (_ :: _ :: []) _ _
        (try simp only [Act.put, List.setIfInBounds_toArray, List.set_cons_zero, List.set_cons_succ])
        go_wp2_with fail
        refine NoPanic.normal ?_
        generalize W1.setCell ⟨w.heap.size, 3, none⟩ (.int .i64 (ai + rb)) = W2 at *
        clear q3 f3
        obtain ⟨a0, a1, a2, a3, a4, a5, a6, a7, a8, a9, a10, a11⟩ := blk12 HA2.out
        obtain ⟨c0, c1, c2, c3', c4', c5, c6, c7, c8, c9, c10, c11⟩ := blk12 HC2.out
        have g0 := HC2.out.frozen 0
        have g1 := HC2.out.frozen 1
        have g2 := HC2.out.frozen 2
        have g3 := HC2.out.frozen 3
        have g4 := HC2.out.frozen 4
        have g5 := HC2.out.frozen 5
        have g6 := HC2.out.frozen 6
        have g7 := HC2.out.frozen 7
        have g8 := HC2.out.frozen 8
        have g9 := HC2.out.frozen 9
        have g10 := HC2.out.frozen 10
        have g11 := HC2.out.frozen 11
        go_wp2
        obtain ⟨r0, r1, r2, r3, r4, r5, r6, r7, r8, r9, r10, r11⟩ := blk12 (put12_blk HC2.out (U8 k) (.slice pA pn pc) (.string key) (.int .i64 (ai + rb)) (.int .i64 j) (.int .i64 an) (U8 y0) (.int .i64 y1) (.string y2) (.slice A3 n3 c3) (.slice A4 n4 c4) (.string s))
        have HEF := hid (HE2.out.trans (put12_keep W2 (w.heap.size + 2) (U8 k) (.slice pA pn pc) (.string key) (.int .i64 (ai + rb)) (.int .i64 j) (.int .i64 an) (U8 y0) (.int .i64 y1) (.string y2) (.slice A3 n3 c3) (.slice A4 n4 c4) (.string s)) fun q hq e => by omega)
        change bodyPost _ _ _ _ _ (put12 W2 (w.heap.size + 2) (U8 k) (.slice pA pn pc) (.string key) (.int .i64 (ai + rb)) (.int .i64 j) (.int .i64 an) (U8 y0) (.int .i64 y1) (.string y2) (.slice A3 n3 c3) (.slice A4 n4 c4) (.string s))
        generalize put12 W2 (w.heap.size + 2) (U8 k) (.slice pA pn pc) (.string key) (.int .i64 (ai + rb)) (.int .i64 j) (.int .i64 an) (U8 y0) (.int .i64 y1) (.string y2) (.slice A3 n3 c3) (.slice A4 n4 c4) (.string s) = WF at *
        refine bodyPost_ret (v := tcV (U8 k) (.slice pA pn pc) (.string key) (ai + rb) (.int .i64 j) an (U8 y0) (.int .i64 y1) (.string y2) (.slice A3 n3 c3) (.slice A4 n4 c4) (.string s)) (by simp [results, Tryd.results85, go_sem, r0, r1, r2, r3, r4, r5, r6, r7, r8, r9, r10, r11]) rfl ⟨by rw [HS2.out], HEF.out⟩
    · have hs2 : sh = ai := by rw [← HSH.out]; unfold shiftL; rw [if_pos rfl, if_neg hm]
      have HS2 := hid hs2
      have hmm : (¬ bi < ai ∧ (bi == ai) = false) ∨ (¬ bi < ai ∧ (bi == ai) = true ∧ left = true) := by
        by_cases h : bi = ai
        · refine .inr ⟨by omega, by simpa using h, ?_⟩
          cases left
          · exact absurd (.inr ⟨h, rfl⟩) hm
          · rfl
        · refine .inl ⟨fun h' => hm (.inl h'), by simpa using h⟩
      clear hs2 hm
      have hEF : Ext w (((w.alloc (.cells (tcA (U8 k) (.slice pA pn pc) (.string key) ai (.int .i64 j) an (U8 y0) (.int .i64 y1) (.string y2) (.slice A3 n3 c3) (.slice A4 n4 c4) (.string s)) TCOMP)).alloc (.cells (tcA (U8 8) p' key' bi j' bn u0 u1 u2 u3 u4 (.string bs)) TCOMP)).alloc (.cells #[.int .u8 k.toNat, .slice pA pn pc, .string key, .int .i64 ai, .int .i64 j, .int .i64 an, .int .u8 y0.toNat, .int .i64 y1, .string y2, .slice A3 n3 c3, .slice A4 n4 c4, .string s] TCOMP)) := (((Keep.refl _ _).alloc _).alloc _).alloc _
      have HEF := hid hEF
      clear hEF
      rcases hmm with ⟨hm1, hm2⟩ | ⟨hm1, hm2, rfl⟩
      all_goals
        go_enter Tryd.func85, Tryd.ntmps85
        go_wp2
        refine bodyPost_ret (v := tcV (U8 k) (.slice pA pn pc) (.string key) (ai) (.int .i64 j) an (U8 y0) (.int .i64 y1) (.string y2) (.slice A3 n3 c3) (.slice A4 n4 c4) (.string s)) (by simp [results, Tryd.results85, go_sem]) rfl ⟨by rw [HS2.out], HEF.out⟩
  · rw [← HSH.out, ← HRB.out]
    exact shift_del k pA pn pc key j y0 y1 y2 A3 n3 c3 A4 n4 c4 s bk p' key' j' u0 u1 u2 u3 u4 bs ai an bi bn left ⟨hai1, hai2⟩ ⟨hbi1, hbi2⟩ ⟨hbn1, hbn2⟩ hbs hk w
end Go.Proofs.YtioplgfopillnaaDoor

/- text.Turn by contract. -/
set_option linter.unusedSimpArgs false
set_option linter.unusedVariables false
namespace Go.Proofs.YtioplgfopillnaaDoor
open Go.RowKit
set_option linter.unusedVariables false

/-- What is to be done of a, behind b: places and numbers. -/
def tturn (ak : UInt8) (ai an : Int) (bk : UInt8) (bi bn rb : Int) (left : Bool) : List (Int × Int) :=
  if tknown ak = false ∨ tknown bk = false then [(ai, an)]
  else if ak = 8 then [(shiftL ai bk bi bn rb left, an)]
  else if bk = 8 then splitL ai an bi rb
  else if (shrinkL ai an bi bn).2 = 0 then [] else [shrinkL ai an bi bn]
theorem TextIs.from_ {k p key j v0 v1 v2 v3 v4 s : Value} {w w1 w' : World} {l : List (Int × Int)} {e : Ending} (h : TextIs k p key j v0 v1 v2 v3 v4 s w1 l e w') (hE : Ext w w1) (hs : (ETt k p key j v0 v1 v2 v3 v4 s).Ok) : TextIs k p key j v0 v1 v2 v3 v4 s w l e w' := by
  obtain ⟨v, rfl, h1, h2⟩ := h
  exact ⟨v, rfl, h1.less hE.size, hE.ext h2⟩
theorem ETt.ok {k p key j v0 v1 v2 v3 v4 s : Value} (h : ∀ u ∈ [k, p, key, j, v0, v1, v2, v3, v4, s], u.oneCell' = true) : (ETt k p key j v0 v1 v2 v3 v4 s).Ok where
  pos := by show 0 < 12; decide
  len := fun h => by have h := h; subst h; rfl
  one := fun hx u hu => by
    subst hx
    simp only [List.mem_cons, List.not_mem_nil, or_false] at hu h
    rcases hu with hu | hu | hu | hu | hu | hu | hu | hu | hu | hu | hu | hu
    · exact h u (by simp [hu])
    · exact h u (by simp [hu])
    · exact h u (by simp [hu])
    · rw [hu]; rfl
    · exact h u (by simp [hu])
    · rw [hu]; rfl
    all_goals exact h u (by simp [hu])
  keep := fun h _ _ => h
  more := fun h _ => h

set_option maxRecDepth 100000 in
set_option maxHeartbeats 6400000 in
theorem turn_text (ak : UInt8) (pA : Option Addr) (pn pc : Nat) (key : ByteArray) (j : Int) (y0 : UInt8) (y1 : Int) (y2 : ByteArray) (A3 : Option Addr) (n3 c3 : Nat) (A4 : Option Addr) (n4 c4 : Nat) (s : ByteArray) (bk : UInt8) (p' key' j' u0 u1 u2 u3 u4 : Value) (bs : ByteArray) (ai an bi bn : Int) (left : Bool)
    (hai : Tm ai) (han : Tm an) (hbi : Tm bi) (hbn : Tm bn) (hbs : bs.size ≤ 140737488355328) (w : World) :
    Calls Tryd.prog 58 #[tcV (U8 ak) (.slice pA pn pc) (.string key) ai (.int .i64 j) an (U8 y0) (.int .i64 y1) (.string y2) (.slice A3 n3 c3) (.slice A4 n4 c4) (.string s), tcV (U8 bk) p' key' bi j' bn u0 u1 u2 u3 u4 (.string bs), .bool left] w
      (TextIs (U8 ak) (.slice pA pn pc) (.string key) (.int .i64 j) (U8 y0) (.int .i64 y1) (.string y2) (.slice A3 n3 c3) (.slice A4 n4 c4) (.string s) w (tturn ak ai an bk bi bn (Lib.runeCount bs : Nat) left)) := by
  have HOK := hid (show (ETt (U8 ak) (.slice pA pn pc) (.string key) (.int .i64 j) (U8 y0) (.int .i64 y1) (.string y2) (.slice A3 n3 c3) (.slice A4 n4 c4) (.string s)).Ok from ETt.ok (by intro u hu; simp at hu; rcases hu with rfl | rfl | rfl | rfl | rfl | rfl | rfl | rfl | rfl | rfl <;> rfl))
  obtain ⟨W0, hW0⟩ : ∃ W0, (w.alloc (.cells (tcA (U8 ak) (.slice pA pn pc) (.string key) ai (.int .i64 j) an (U8 y0) (.int .i64 y1) (.string y2) (.slice A3 n3 c3) (.slice A4 n4 c4) (.string s)) TCOMP)).alloc (.cells (tcA (U8 bk) p' key' bi j' bn u0 u1 u2 u3 u4 (.string bs)) TCOMP) = W0 := ⟨_, rfl⟩
  have hE0 : Ext w W0 := by rw [← hW0]; exact ((Keep.refl _ _).alloc _).alloc _
  have hsz : W0.heap.size = w.heap.size + 2 := by rw [← hW0]; simp
  have ha : Blk W0 w.heap.size TCOMP (tcA (U8 ak) (.slice pA pn pc) (.string key) ai (.int .i64 j) an (U8 y0) (.int .i64 y1) (.string y2) (.slice A3 n3 c3) (.slice A4 n4 c4) (.string s)) := by rw [← hW0]; exact (Blk.new w TCOMP _).alloc _
  have hb : Blk W0 (w.heap.size + 1) TCOMP (tcA (U8 bk) p' key' bi j' bn u0 u1 u2 u3 u4 (.string bs)) := by
    have := Blk.new (w.alloc (.cells (tcA (U8 ak) (.slice pA pn pc) (.string key) ai (.int .i64 j) an (U8 y0) (.int .i64 y1) (.string y2) (.slice A3 n3 c3) (.slice A4 n4 c4) (.string s)) TCOMP)) TCOMP (tcA (U8 bk) p' key' bi j' bn u0 u1 u2 u3 u4 (.string bs))
    rw [World.size_alloc] at this
    rw [← hW0]; exact this
  have HT := hid (show tturn ak ai an bk bi bn (Lib.runeCount bs : Nat) left = _ from rfl)
  generalize hR : tturn ak ai an bk bi bn (Lib.runeCount bs : Nat) left = R
  have HR := hid hR
  have HA := hid ha
  have HB := hid hb
  have HE0 := hid hE0
  have HK := hid (fun (k : UInt8) p key j nn v0 v1 v2 v3 v4 s i w => tknown_any k p key j nn v0 v1 v2 v3 v4 s i w)
  clear ha hb hE0 hR HT
  have hres1 : ∀ {W : World}, Ext w W → R = [(ai, an)] → TextIs (U8 ak) (.slice pA pn pc) (.string key) (.int .i64 j) (U8 y0) (.int .i64 y1) (.string y2) (.slice A3 n3 c3) (.slice A4 n4 c4) (.string s) w R (.returned (.slice (some ⟨W.heap.size, 0, none⟩) 1 1)) (W.alloc (.cells (tcA (U8 ak) (.slice pA pn pc) (.string key) ai (.int .i64 j) an (U8 y0) (.int .i64 y1) (.string y2) (.slice A3 n3 c3) (.slice A4 n4 c4) (.string s)) TCOMP)) := fun hE hr => by
    rw [hr]; exact text_one _ _ _ _ _ _ _ _ _ _ hE rfl
  have HRES := hid (fun (W : World) (hE : Ext w W) (hr : R = [(ai, an)]) => hres1 hE hr)
  clear hres1 hsz
  by_cases hka : tknown ak = false
  · have HRR := hid (show R = [(ai, an)] from by rw [← HR.out]; unfold tturn; rw [if_pos (.inl hka)])
    have hka' := hid hka
    clear hka
    obtain ⟨a0, a1, a2, a3, a4, a5, a6, a7, a8, a9, a10, a11⟩ := blk12 HA.out
    obtain ⟨b0, b1, b2, b3, b4, b5, b6, b7, b8, b9, b10, b11⟩ := blk12 HB.out
    go_enter Tryd.func58, Tryd.ntmps58
    go_wp2_with fail
    clear a0 a1 a2 a3 a4 a5 a6 a7 a8 a9 a10 a11 b0 b1 b2 b3 b4 b5 b6 b7 b8 b9 b10 b11
    refine (tknown_any (ak) (.slice pA pn pc) (.string key) (.int .i64 j) (.int .i64 an) (U8 y0) (.int .i64 y1) (.string y2) (.slice A3 n3 c3) (.slice A4 n4 c4) (.string s) (.int .i64 ai) W0).mono ?_
    rintro e W1 ⟨rfl, hE⟩
    rw [hka'.out]
    have HA1 := hid (HA.out.keep hE id)
    have HB1 := hid (HB.out.keep hE id)
    have HE1 := hid (HE0.out.ext hE)
    clear hE
    obtain ⟨a0, a1, a2, a3, a4, a5, a6, a7, a8, a9, a10, a11⟩ := blk12 HA1.out
    obtain ⟨b0, b1, b2, b3, b4, b5, b6, b7, b8, b9, b10, b11⟩ := blk12 HB1.out
    go_wp2_with fail
    go_ret
    exact HRES.out W1 HE1.out HRR.out
  have hka1 : tknown ak = true := by cases h : tknown ak; exact absurd h hka; rfl
  by_cases hkb : tknown bk = false
  · have HRR := hid (show R = [(ai, an)] from by rw [← HR.out]; unfold tturn; rw [if_pos (.inr hkb)])
    have hka' := hid hka1
    have hkb' := hid hkb
    clear hka hka1 hkb
    obtain ⟨a0, a1, a2, a3, a4, a5, a6, a7, a8, a9, a10, a11⟩ := blk12 HA.out
    obtain ⟨b0, b1, b2, b3, b4, b5, b6, b7, b8, b9, b10, b11⟩ := blk12 HB.out
    go_enter Tryd.func58, Tryd.ntmps58
    go_wp2_with fail
    clear a0 a1 a2 a3 a4 a5 a6 a7 a8 a9 a10 a11 b0 b1 b2 b3 b4 b5 b6 b7 b8 b9 b10 b11
    refine (tknown_any (ak) (.slice pA pn pc) (.string key) (.int .i64 j) (.int .i64 an) (U8 y0) (.int .i64 y1) (.string y2) (.slice A3 n3 c3) (.slice A4 n4 c4) (.string s) (.int .i64 ai) W0).mono ?_
    rintro e W1 ⟨rfl, hE⟩
    rw [hka'.out]
    have HA1 := hid (HA.out.keep hE id)
    have HB1 := hid (HB.out.keep hE id)
    have HE1 := hid (HE0.out.ext hE)
    clear hE
    obtain ⟨a0, a1, a2, a3, a4, a5, a6, a7, a8, a9, a10, a11⟩ := blk12 HA1.out
    obtain ⟨b0, b1, b2, b3, b4, b5, b6, b7, b8, b9, b10, b11⟩ := blk12 HB1.out
    go_wp2_with fail
    clear a0 a1 a2 a3 a4 a5 a6 a7 a8 a9 a10 a11 b0 b1 b2 b3 b4 b5 b6 b7 b8 b9 b10 b11
    refine (tknown_any (bk) p' key' j' (.int .i64 bn) u0 u1 u2 u3 u4 (.string bs) (.int .i64 bi) W1).mono ?_
    rintro e W2 ⟨rfl, hE⟩
    rw [hkb'.out]
    have HA2 := hid (HA1.out.keep hE id)
    have HB2 := hid (HB1.out.keep hE id)
    have HE2 := hid (HE1.out.ext hE)
    clear hE
    obtain ⟨a0, a1, a2, a3, a4, a5, a6, a7, a8, a9, a10, a11⟩ := blk12 HA2.out
    obtain ⟨b0, b1, b2, b3, b4, b5, b6, b7, b8, b9, b10, b11⟩ := blk12 HB2.out
    go_wp2_with fail
    go_ret
    exact HRES.out W2 HE2.out HRR.out
  have hkb1 : tknown bk = true := by cases h : tknown bk; exact absurd h hkb; rfl
  have hka' := hid hka1
  have hkb' := hid hkb1
  have hno : ¬ (tknown ak = false ∨ tknown bk = false) := fun h => h.elim hka hkb
  have h8a : ak = 8 ∨ ak = 9 := by
    rcases tkind_cases ak with h | h | ⟨h, _⟩
    · exact .inl h
    · exact .inr h
    · exact absurd h hka
  have h8b : bk = 8 ∨ bk = 9 := by
    rcases tkind_cases bk with h | h | ⟨h, _⟩
    · exact .inl h
    · exact .inr h
    · exact absurd h hkb
  have HNO := hid hno
  clear hka hkb hka1 hkb1 hno HRES
  rcases h8a with rfl | rfl
  · have HRR := hid (show R = [(shiftL ai bk bi bn (Lib.runeCount bs : Nat) left, an)] from by rw [← HR.out]; unfold tturn; rw [if_neg HNO.out, if_pos rfl])
    clear HNO HR h8b
    obtain ⟨a0, a1, a2, a3, a4, a5, a6, a7, a8, a9, a10, a11⟩ := blk12 HA.out
    obtain ⟨b0, b1, b2, b3, b4, b5, b6, b7, b8, b9, b10, b11⟩ := blk12 HB.out
    go_enter Tryd.func58, Tryd.ntmps58
    go_wp2_with fail
    clear a0 a1 a2 a3 a4 a5 a6 a7 a8 a9 a10 a11 b0 b1 b2 b3 b4 b5 b6 b7 b8 b9 b10 b11
    refine (tknown_any (8) (.slice pA pn pc) (.string key) (.int .i64 j) (.int .i64 an) (U8 y0) (.int .i64 y1) (.string y2) (.slice A3 n3 c3) (.slice A4 n4 c4) (.string s) (.int .i64 ai) W0).mono ?_
    rintro e W1 ⟨rfl, hE⟩
    rw [hka'.out]
    have HA1 := hid (HA.out.keep hE id)
    have HB1 := hid (HB.out.keep hE id)
    have HE1 := hid (HE0.out.ext hE)
    clear hE
    obtain ⟨a0, a1, a2, a3, a4, a5, a6, a7, a8, a9, a10, a11⟩ := blk12 HA1.out
    obtain ⟨b0, b1, b2, b3, b4, b5, b6, b7, b8, b9, b10, b11⟩ := blk12 HB1.out
    go_wp2_with fail
    clear a0 a1 a2 a3 a4 a5 a6 a7 a8 a9 a10 a11 b0 b1 b2 b3 b4 b5 b6 b7 b8 b9 b10 b11
    refine (tknown_any (bk) p' key' j' (.int .i64 bn) u0 u1 u2 u3 u4 (.string bs) (.int .i64 bi) W1).mono ?_
    rintro e W2 ⟨rfl, hE⟩
    rw [hkb'.out]
    have HA2 := hid (HA1.out.keep hE id)
    have HB2 := hid (HB1.out.keep hE id)
    have HE2 := hid (HE1.out.ext hE)
    clear hE
    obtain ⟨a0, a1, a2, a3, a4, a5, a6, a7, a8, a9, a10, a11⟩ := blk12 HA2.out
    obtain ⟨b0, b1, b2, b3, b4, b5, b6, b7, b8, b9, b10, b11⟩ := blk12 HB2.out
    go_wp2_with fail
    clear a0 a1 a2 a3 a4 a5 a6 a7 a8 a9 a10 a11 b0 b1 b2 b3 b4 b5 b6 b7 b8 b9 b10 b11
    refine (shift_any 8 pA pn pc key j y0 y1 y2 A3 n3 c3 A4 n4 c4 s bk p' key' j' u0 u1 u2 u3 u4 bs ai an bi bn left hai hbi hbn hbs W2).mono ?_
    rintro e W3 ⟨rfl, hE⟩
    have HE3 := hid (HE2.out.ext hE)
    clear hE
    generalize shiftL ai bk bi bn (Lib.runeCount bs : Nat) left = sh at *
    go_wp2
    go_ret
    rw [HRR.out]
    exact text_one _ _ _ _ _ _ _ _ _ _ HE3.out rfl
  · rcases h8b with rfl | rfl
    · have HRR := hid (show R = splitL ai an bi (Lib.runeCount bs : Nat) from by rw [← HR.out]; unfold tturn; rw [if_neg HNO.out, if_neg (by decide), if_pos rfl])
      clear HNO HR
      obtain ⟨a0, a1, a2, a3, a4, a5, a6, a7, a8, a9, a10, a11⟩ := blk12 HA.out
      obtain ⟨b0, b1, b2, b3, b4, b5, b6, b7, b8, b9, b10, b11⟩ := blk12 HB.out
      go_enter Tryd.func58, Tryd.ntmps58
      go_wp2_with fail
      clear a0 a1 a2 a3 a4 a5 a6 a7 a8 a9 a10 a11 b0 b1 b2 b3 b4 b5 b6 b7 b8 b9 b10 b11
      refine (tknown_any (9) (.slice pA pn pc) (.string key) (.int .i64 j) (.int .i64 an) (U8 y0) (.int .i64 y1) (.string y2) (.slice A3 n3 c3) (.slice A4 n4 c4) (.string s) (.int .i64 ai) W0).mono ?_
      rintro e W1 ⟨rfl, hE⟩
      rw [hka'.out]
      have HA1 := hid (HA.out.keep hE id)
      have HB1 := hid (HB.out.keep hE id)
      have HE1 := hid (HE0.out.ext hE)
      clear hE
      obtain ⟨a0, a1, a2, a3, a4, a5, a6, a7, a8, a9, a10, a11⟩ := blk12 HA1.out
      obtain ⟨b0, b1, b2, b3, b4, b5, b6, b7, b8, b9, b10, b11⟩ := blk12 HB1.out
      go_wp2_with fail
      clear a0 a1 a2 a3 a4 a5 a6 a7 a8 a9 a10 a11 b0 b1 b2 b3 b4 b5 b6 b7 b8 b9 b10 b11
      refine (tknown_any (8) p' key' j' (.int .i64 bn) u0 u1 u2 u3 u4 (.string bs) (.int .i64 bi) W1).mono ?_
      rintro e W2 ⟨rfl, hE⟩
      rw [hkb'.out]
      have HA2 := hid (HA1.out.keep hE id)
      have HB2 := hid (HB1.out.keep hE id)
      have HE2 := hid (HE1.out.ext hE)
      clear hE
      obtain ⟨a0, a1, a2, a3, a4, a5, a6, a7, a8, a9, a10, a11⟩ := blk12 HA2.out
      obtain ⟨b0, b1, b2, b3, b4, b5, b6, b7, b8, b9, b10, b11⟩ := blk12 HB2.out
      go_wp2_with fail
      clear a0 a1 a2 a3 a4 a5 a6 a7 a8 a9 a10 a11 b0 b1 b2 b3 b4 b5 b6 b7 b8 b9 b10 b11
      refine (split_any 9 pA pn pc key j y0 y1 y2 A3 n3 c3 A4 n4 c4 s (U8 8) p' key' j' u0 u1 u2 u3 u4 bs ai an bi bn hai han hbi hbs W2).mono ?_
      rintro e W3 ⟨v, rfl, h1, h2⟩
      obtain ⟨A9, c9, rfl, _⟩ := h1.shape
      have HF := hid (TextIs.from_ ⟨_, rfl, h1, h2⟩ HE2.out HOK.out)
      clear h1 h2
      generalize (splitL ai an bi (Lib.runeCount bs : Nat)).length = q at *
      go_wp2
      go_ret
      rw [HRR.out]
      exact HF.out
    · have HRR := hid (show R = (if (shrinkL ai an bi bn).2 = 0 then [] else [shrinkL ai an bi bn]) from by rw [← HR.out]; unfold tturn; rw [if_neg HNO.out, if_neg (by decide), if_neg (by decide)])
      clear HNO HR
      obtain ⟨a0, a1, a2, a3, a4, a5, a6, a7, a8, a9, a10, a11⟩ := blk12 HA.out
      obtain ⟨b0, b1, b2, b3, b4, b5, b6, b7, b8, b9, b10, b11⟩ := blk12 HB.out
      go_enter Tryd.func58, Tryd.ntmps58
      go_wp2_with fail
      clear a0 a1 a2 a3 a4 a5 a6 a7 a8 a9 a10 a11 b0 b1 b2 b3 b4 b5 b6 b7 b8 b9 b10 b11
      refine (tknown_any (9) (.slice pA pn pc) (.string key) (.int .i64 j) (.int .i64 an) (U8 y0) (.int .i64 y1) (.string y2) (.slice A3 n3 c3) (.slice A4 n4 c4) (.string s) (.int .i64 ai) W0).mono ?_
      rintro e W1 ⟨rfl, hE⟩
      rw [hka'.out]
      have HA1 := hid (HA.out.keep hE id)
      have HB1 := hid (HB.out.keep hE id)
      have HE1 := hid (HE0.out.ext hE)
      clear hE
      obtain ⟨a0, a1, a2, a3, a4, a5, a6, a7, a8, a9, a10, a11⟩ := blk12 HA1.out
      obtain ⟨b0, b1, b2, b3, b4, b5, b6, b7, b8, b9, b10, b11⟩ := blk12 HB1.out
      go_wp2_with fail
      clear a0 a1 a2 a3 a4 a5 a6 a7 a8 a9 a10 a11 b0 b1 b2 b3 b4 b5 b6 b7 b8 b9 b10 b11
      refine (tknown_any (9) p' key' j' (.int .i64 bn) u0 u1 u2 u3 u4 (.string bs) (.int .i64 bi) W1).mono ?_
      rintro e W2 ⟨rfl, hE⟩
      rw [hkb'.out]
      have HA2 := hid (HA1.out.keep hE id)
      have HB2 := hid (HB1.out.keep hE id)
      have HE2 := hid (HE1.out.ext hE)
      clear hE
      obtain ⟨a0, a1, a2, a3, a4, a5, a6, a7, a8, a9, a10, a11⟩ := blk12 HA2.out
      obtain ⟨b0, b1, b2, b3, b4, b5, b6, b7, b8, b9, b10, b11⟩ := blk12 HB2.out
      go_wp2_with fail
      clear a0 a1 a2 a3 a4 a5 a6 a7 a8 a9 a10 a11 b0 b1 b2 b3 b4 b5 b6 b7 b8 b9 b10 b11
      refine (shrink_any (U8 9) (.slice pA pn pc) (.string key) (.int .i64 j) (U8 y0) (.int .i64 y1) (.string y2) (.slice A3 n3 c3) (.slice A4 n4 c4) (.string s) (U8 9) p' key' j' u0 u1 u2 u3 u4 (.string bs) ai an bi bn hai han hbi hbn W2).mono ?_
      rintro e W3 ⟨v, rfl, h1, h2⟩
      obtain ⟨A9, c9, rfl, _⟩ := h1.shape
      have HF := hid (TextIs.from_ ⟨_, rfl, h1, h2⟩ HE2.out HOK.out)
      clear h1 h2
      generalize (if (shrinkL ai an bi bn).2 = 0 then ([] : List (Int × Int)) else [shrinkL ai an bi bn]) = R2 at *
      generalize R2.length = q at *
      go_wp2
      go_ret
      rw [HRR.out]
      exact HF.out
end Go.Proofs.YtioplgfopillnaaDoor

/- turn.beside by contract: what is left of a component behind another one on the same value. -/
set_option linter.unusedSimpArgs false
set_option linter.unusedVariables false
namespace Go.Proofs.YtioplgfopillnaaDoor
open Go.RowKit
set_option linter.unusedVariables false

/-- What is left of x behind y, both at one path. -/
def besL (x y : Cp) (left : Bool) : List Cp :=
  if famN x.kind.toNat ≠ famN y.kind.toNat then [x]
  else if famN x.kind.toNat = 4 then (turnL x.kind x.i x.j y.kind y.i y.j left).toList.map fun q => { x with i := q.1, j := q.2 }
  else if famN x.kind.toNat = 3 then (tturn x.kind x.i x.n y.kind y.i y.n (Lib.runeCount y.s : Nat) left).map fun q => { x with i := q.1, n := q.2 }
  else if famN x.kind.toNat = 5 ∧ (x.key.toList == y.key.toList) = true ∧ (x.kind.toNat == 2 && (left || y.kind.toNat == 3)) = false then []
  else [x]
theorem besL_four {x y : Cp} {left : Bool} (h : ¬ famN x.kind.toNat ≠ famN y.kind.toNat) (h4 : famN x.kind.toNat = 4) : besL x y left = (turnL x.kind x.i x.j y.kind y.i y.j left).toList.map fun q => { x with i := q.1, j := q.2 } := by
  unfold besL; rw [if_neg h, if_pos h4]
theorem besL_three {x y : Cp} {left : Bool} (h : ¬ famN x.kind.toNat ≠ famN y.kind.toNat) (h3 : famN x.kind.toNat = 3) : besL x y left = (tturn x.kind x.i x.n y.kind y.i y.n (Lib.runeCount y.s : Nat) left).map fun q => { x with i := q.1, n := q.2 } := by
  unfold besL; rw [if_neg h, if_neg (by rw [h3]; decide), if_pos h3]
/-- Numbers of which something is said. -/
structure Bd (x : Cp) : Prop where
  i : Sm x.i
  j : Sm x.j
  t : famN x.kind.toNat = 3 → Tm x.i ∧ Tm x.n
  s : x.s.size ≤ 100000
  p : ∀ s ∈ x.path, Sm s.i
def BesIs (w : World) (S : BS) (l : List Cp) (e : Ending) (w' : World) : Prop := ∃ v, e = .returned v ∧ Own ECp w' w.heap.size TCMP S v l ∧ Ext w w'
theorem bes_one {w W : World} {S : BS} {x : Cp} {pv lv ov : Value} (hE : Ext w W) (h1 : Sl ESt w S pv x.path) (h2 : Sl EVal w S lv x.v.l) (h3 : Sl EField w S ov x.v.o) {l : List Cp} (hl : l = [x]) :
    BesIs w S l (.returned (.slice (some ⟨W.heap.size, 0, none⟩) 1 1)) (W.alloc (.cells (cpCells x pv lv ov) TCMP)) := by
  subst hl
  have hE2 := hE.alloc (.cells (cpCells x pv lv ov) TCMP)
  exact ⟨_, rfl, .inr ⟨_, 1, _, rfl, hE.size, Blk.new _ _ _, Nat.le_refl _, by simp [maxLen], rfl, Cells.single ⟨pv, lv, ov, rfl, h1.ext ESt.ok hE2, h2.ext EVal.ok hE2, h3.ext EField.ok hE2⟩⟩, hE2⟩
theorem bes_seq {w W w' : World} {S : BS} {x : Cp} {pv lv ov : Value} {r : Option (Int × Int)} {e : Ending} (hE : Ext w W) (h1 : Sl ESt w S pv x.path) (h2 : Sl EVal w S lv x.v.l) (h3 : Sl EField w S ov x.v.o)
    (h : CompIs (U8 x.kind) pv (.string x.key) (.int .i64 x.n) (U8 x.v.kind) (.int .i64 x.v.n) (.string x.v.s) lv ov (.string x.s) W r e w') : BesIs w S (r.toList.map fun q => { x with i := q.1, j := q.2 }) e w' := by
  obtain ⟨v, rfl, hE1, ho⟩ := h
  have hE2 := hE.ext hE1
  refine ⟨v, rfl, ?_, hE2⟩
  cases r with
  | none =>
    have ho : v = .slice none 0 0 := ho
    subst ho
    exact Own.nil _ _ _ _
  | some q =>
    obtain ⟨g, rfl, hg, hb⟩ := ho
    exact .inr ⟨g, 1, _, rfl, Nat.le_trans hE.size hg, hb, Nat.le_refl _, by simp [maxLen], rfl, Cells.single ⟨pv, lv, ov, rfl, h1.ext ESt.ok hE2, h2.ext EVal.ok hE2, h3.ext EField.ok hE2⟩⟩
theorem cells_map {α β : Type} {E : El α} {E' : El β} {w w' : World} {S S' : BS} {f : α → β} (h : ∀ cs x, E.rd w S cs x → E'.rd w' S' cs (f x)) : ∀ {cs : List Value} {xs : List α}, Cells E w S cs xs → Cells E' w' S' cs (xs.map f)
  | _, [], hc => hc
  | _, _ :: _, ⟨c0, c1, e, h0, h1⟩ => ⟨c0, c1, e, h _ _ h0, cells_map h h1⟩
theorem bes_text {w W w' : World} {S : BS} {x : Cp} {pv lv ov : Value} {r : List (Int × Int)} {e : Ending} (hE : Ext w W) (h1 : Sl ESt w S pv x.path) (h2 : Sl EVal w S lv x.v.l) (h3 : Sl EField w S ov x.v.o)
    (h : TextIs (U8 x.kind) pv (.string x.key) (.int .i64 x.j) (U8 x.v.kind) (.int .i64 x.v.n) (.string x.v.s) lv ov (.string x.s) W r e w') : BesIs w S (r.map fun q => { x with i := q.1, n := q.2 }) e w' := by
  obtain ⟨v, rfl, ho, hE1⟩ := h
  have hE2 := hE.ext hE1
  refine ⟨v, rfl, ?_, hE2⟩
  rcases ho with ⟨rfl, rfl⟩ | ⟨g, cap, cur, rfl, hg, hb, hc, hm, hs, hcs⟩
  · exact Own.nil _ _ _ _
  · refine .inr ⟨g, cap, cur, by rw [List.length_map], Nat.le_trans hE.size hg, hb, by rw [List.length_map]; exact hc, hm, hs, ?_⟩
    rw [List.length_map]
    refine cells_map (E' := ECp) (S' := S) (w' := w') (f := fun q : Int × Int => { x with i := q.1, n := q.2 }) (fun cs q hq => ?_) hcs
    exact ⟨pv, lv, ov, hq, h1.ext ESt.ok hE2, h2.ext EVal.ok hE2, h3.ext EField.ok hE2⟩
set_option maxRecDepth 20000 in
set_option maxHeartbeats 6400000 in
theorem beside_ok (w : World) (S S2 : BS) (u t : Value) (x y : Cp) (left : Bool) (hx : CAt w S u x) (hy : CAt w S2 t y) (bx : Bd x) (by_ : Bd y) :
    Calls Tryd.prog 29 #[u, t, .bool left] w (BesIs w S (besL x y left)) := by
  obtain ⟨pv, lv, ov, rfl, h1, h2, h3⟩ := hx
  obtain ⟨Ap, cp, rfl, _⟩ := h1.shape
  obtain ⟨Al, cl, rfl, _⟩ := h2.shape
  obtain ⟨Ao, co, rfl, _⟩ := h3.shape
  obtain ⟨qv, mv, nv, rfl, k1, k2, k3⟩ := hy
  obtain ⟨Bp, dp, rfl, _⟩ := k1.shape
  obtain ⟨Bl, dl, rfl, _⟩ := k2.shape
  obtain ⟨Bo, do_, rfl, _⟩ := k3.shape
  clear k1 k2 k3
  obtain ⟨W, hW⟩ : ∃ W, (w.alloc (.cells (cpCells x (.slice Ap x.path.length cp) (.slice Al x.v.l.length cl) (.slice Ao x.v.o.length co)) TCMP)).alloc (.cells (cpCells y (.slice Bp y.path.length dp) (.slice Bl y.v.l.length dl) (.slice Bo y.v.o.length do_)) TCMP) = W := ⟨_, rfl⟩
  have hE : Ext w W := by rw [← hW]; exact ((Keep.refl _ _).alloc _).alloc _
  have hb : Blk W w.heap.size TCMP (cpCells x (.slice Ap x.path.length cp) (.slice Al x.v.l.length cl) (.slice Ao x.v.o.length co)) := by rw [← hW]; exact (Blk.new _ _ _).alloc _
  have hc : Blk W (w.heap.size + 1) TCMP (cpCells y (.slice Bp y.path.length dp) (.slice Bl y.v.l.length dl) (.slice Bo y.v.o.length do_)) := by
    have := Blk.new (w.alloc (.cells (cpCells x (.slice Ap x.path.length cp) (.slice Al x.v.l.length cl) (.slice Ao x.v.o.length co)) TCMP)) TCMP (cpCells y (.slice Bp y.path.length dp) (.slice Bl y.v.l.length dl) (.slice Bo y.v.o.length do_))
    rw [World.size_alloc, hW] at this
    exact this
  have x0 := hb.cell 0
  have y0 := hc.cell 0
  have x1 := hb.cell 1
  have y1 := hc.cell 1
  have x2 := hb.cell 2
  have y2 := hc.cell 2
  have x3 := hb.cell 3
  have y3 := hc.cell 3
  have x4 := hb.cell 4
  have y4 := hc.cell 4
  have x5 := hb.cell 5
  have y5 := hc.cell 5
  have x6 := hb.cell 6
  have y6 := hc.cell 6
  have x7 := hb.cell 7
  have y7 := hc.cell 7
  have x8 := hb.cell 8
  have y8 := hc.cell 8
  have x9 := hb.cell 9
  have y9 := hc.cell 9
  have x10 := hb.cell 10
  have y10 := hc.cell 10
  have x11 := hb.cell 11
  have y11 := hc.cell 11
  simp at x0 y0 x1 y1 x2 y2 x3 y3 x4 y4 x5 y5 x6 y6 x7 y7 x8 y8 x9 y9 x10 y10 x11 y11
  have HB := hid hb
  have HC := hid hc
  have HE := hid hE
  have H1 := hid h1
  have H2 := hid h2
  have H3 := hid h3
  have BX := hid bx
  have BY := hid by_
  clear hb hc hE h1 h2 h3 bx by_
  go_enter Tryd.func29, Tryd.ntmps29
  go_wp2_with fail
  refine (family_ok W x.kind _ _ _ _ _ _ _ _ _ _ _).mono ?_
  rintro e W2 ⟨rfl, hE2⟩
  have hb2 := HB.out.keep hE2 id
  have hc2 := HC.out.keep hE2 id
  clear x0 y0 x1 y1 x2 y2 x3 y3 x4 y4 x5 y5 x6 y6 x7 y7 x8 y8 x9 y9 x10 y10 x11 y11
  have x0 := hb2.cell 0
  have y0 := hc2.cell 0
  have x1 := hb2.cell 1
  have y1 := hc2.cell 1
  have x2 := hb2.cell 2
  have y2 := hc2.cell 2
  have x3 := hb2.cell 3
  have y3 := hc2.cell 3
  have x4 := hb2.cell 4
  have y4 := hc2.cell 4
  have x5 := hb2.cell 5
  have y5 := hc2.cell 5
  have x6 := hb2.cell 6
  have y6 := hc2.cell 6
  have x7 := hb2.cell 7
  have y7 := hc2.cell 7
  have x8 := hb2.cell 8
  have y8 := hc2.cell 8
  have x9 := hb2.cell 9
  have y9 := hc2.cell 9
  have x10 := hb2.cell 10
  have y10 := hc2.cell 10
  have x11 := hb2.cell 11
  have y11 := hc2.cell 11
  simp at x0 y0 x1 y1 x2 y2 x3 y3 x4 y4 x5 y5 x6 y6 x7 y7 x8 y8 x9 y9 x10 y10 x11 y11
  have HB2 := hid hb2
  have HC2 := hid hc2
  have HE2 := hid (HE.out.ext hE2)
  clear hb2 hc2 hE2 hW
  go_wp2_with fail
  refine (family_ok W2 y.kind _ _ _ _ _ _ _ _ _ _ _).mono ?_
  rintro e W3 ⟨rfl, hE3⟩
  have hb3 := HB2.out.keep hE3 id
  have hc3 := HC2.out.keep hE3 id
  clear x0 y0 x1 y1 x2 y2 x3 y3 x4 y4 x5 y5 x6 y6 x7 y7 x8 y8 x9 y9 x10 y10 x11 y11
  have x0 := hb3.cell 0
  have y0 := hc3.cell 0
  have x1 := hb3.cell 1
  have y1 := hc3.cell 1
  have x2 := hb3.cell 2
  have y2 := hc3.cell 2
  have x3 := hb3.cell 3
  have y3 := hc3.cell 3
  have x4 := hb3.cell 4
  have y4 := hc3.cell 4
  have x5 := hb3.cell 5
  have y5 := hc3.cell 5
  have x6 := hb3.cell 6
  have y6 := hc3.cell 6
  have x7 := hb3.cell 7
  have y7 := hc3.cell 7
  have x8 := hb3.cell 8
  have y8 := hc3.cell 8
  have x9 := hb3.cell 9
  have y9 := hc3.cell 9
  have x10 := hb3.cell 10
  have y10 := hc3.cell 10
  have x11 := hb3.cell 11
  have y11 := hc3.cell 11
  simp at x0 y0 x1 y1 x2 y2 x3 y3 x4 y4 x5 y5 x6 y6 x7 y7 x8 y8 x9 y9 x10 y10 x11 y11
  have HB3 := hid hb3
  have HC3 := hid hc3
  have HE3 := hid (HE2.out.ext hE3)
  clear hb3 hc3 hE3 HB2 HC2 HE2
  obtain ⟨f, hf⟩ : ∃ f, famN x.kind.toNat = f := ⟨_, rfl⟩
  obtain ⟨g, hg⟩ : ∃ g, famN y.kind.toNat = g := ⟨_, rfl⟩
  rw [hf, hg]
  have HF := hid hf
  have HG := hid hg
  clear hf hg
  by_cases hfg : f = g
  · subst hfg
    have q0 : ((f : Int) == (f : Int)) = true := by simp
    have hnn : ¬ famN x.kind.toNat ≠ famN y.kind.toNat := by rw [HF.out, HG.out]; simp
    have HNN := hid hnn
    clear hnn
    by_cases h4 : f = 4
    · subst h4
      have HT := hid (turn_any x.kind y.kind (.slice Ap x.path.length cp) (.string x.key) (.int .i64 x.n) (U8 x.v.kind) (.int .i64 x.v.n) (.string x.v.s) (.slice Al x.v.l.length cl) (.slice Ao x.v.o.length co) (.string x.s) (.slice Bp y.path.length dp) (.string y.key) (.int .i64 y.n) (U8 y.v.kind) (.int .i64 y.v.n) (.string y.v.s) (.slice Bl y.v.l.length dl) (.slice Bo y.v.o.length do_) (.string y.s) x.i x.j y.i y.j left W3 BX.out.i BX.out.j BY.out.i BY.out.j)
      have HRES := hid (besL_four (left := left) HNN.out HF.out)
      go_wp2_with fail
      refine HT.out.mono ?_
      intro e W4 h
      have hB := bes_seq HE3.out H1.out H2.out H3.out h
      rw [← HRES.out] at hB
      obtain ⟨v, rfl, ho, hE4⟩ := hB
      obtain ⟨A4, c4, rfl, _⟩ := ho.shape
      have HO := hid ho
      have HE4 := hid hE4
      clear h ho hE4
      go_wp2
      go_ret
      exact ⟨_, rfl, HO.out, HE4.out⟩
    · by_cases h3 : f = 3
      · subst h3
        have HT := hid (turn_text x.kind Ap x.path.length cp x.key x.j x.v.kind x.v.n x.v.s Al x.v.l.length cl Ao x.v.o.length co x.s y.kind (.slice Bp y.path.length dp) (.string y.key) (.int .i64 y.j) (U8 y.v.kind) (.int .i64 y.v.n) (.string y.v.s) (.slice Bl y.v.l.length dl) (.slice Bo y.v.o.length do_) y.s x.i x.n y.i y.n left (BX.out.t HF.out).1 (BX.out.t HF.out).2 (BY.out.t HG.out).1 (BY.out.t HG.out).2 (by have := BY.out.s; omega) W3)
        have HRES := hid (besL_three (left := left) HNN.out HF.out)
        clear h4
        go_wp2_with fail
        refine HT.out.mono ?_
        intro e W4 h
        have hB := bes_text HE3.out H1.out H2.out H3.out h
        rw [← HRES.out] at hB
        obtain ⟨v, rfl, ho, hE4⟩ := hB
        obtain ⟨A4, c4, rfl, _⟩ := ho.shape
        have HO := hid ho
        have HE4 := hid hE4
        clear h ho hE4
        go_wp2
        go_ret
        exact ⟨_, rfl, HO.out, HE4.out⟩
      · have h4X : ((f : Int) == 4) = false := by simp; omega
        have h3X : ((f : Int) == 3) = false := by simp; omega
        have H4 := hid h4
        have H3F := hid h3
        clear h4 h3
        by_cases h5 : f = 5
        · subst h5
          cases hkey : (x.key.toList == y.key.toList) with
          | false =>
            have HKEY := hid hkey
            go_wp2
            go_ret
            refine bes_one HE3.out H1.out H2.out H3.out ?_
            unfold besL; rw [if_neg HNN.out, if_neg (by rw [HF.out]; decide), if_neg (by rw [HF.out]; decide), if_neg (by rw [HKEY.out]; simp)]
          | true =>
            have HKEY := hid hkey
            obtain ⟨b, hb⟩ : ∃ b, (x.kind.toNat == 2 && (left || y.kind.toNat == 3)) = b := ⟨_, rfl⟩
            have HBB := hid hb
            have HT := hid (fields_ok W3 x.kind y.kind (.slice Ap x.path.length cp) (.string x.key) (.int .i64 x.i) (.int .i64 x.j) (.int .i64 x.n) (U8 x.v.kind) (.int .i64 x.v.n) (.string x.v.s) (.slice Al x.v.l.length cl) (.slice Ao x.v.o.length co) (.string x.s) (.slice Bp y.path.length dp) (.string y.key) (.int .i64 y.i) (.int .i64 y.j) (.int .i64 y.n) (U8 y.v.kind) (.int .i64 y.v.n) (.string y.v.s) (.slice Bl y.v.l.length dl) (.slice Bo y.v.o.length do_) (.string y.s) left)
            rw [hb] at HT
            clear hb
            go_wp2_with fail
            refine HT.out.mono ?_
            rintro e W4 ⟨rfl, hE4⟩
            have hb4 := HB3.out.keep hE4 id
            clear x0 x1 x2 x3 x4 x5 x6 x7 x8 x9 x10 x11 y0 y1 y2 y3 y4 y5 y6 y7 y8 y9 y10 y11
            have x0 := hb4.cell 0
            have x1 := hb4.cell 1
            have x2 := hb4.cell 2
            have x3 := hb4.cell 3
            have x4 := hb4.cell 4
            have x5 := hb4.cell 5
            have x6 := hb4.cell 6
            have x7 := hb4.cell 7
            have x8 := hb4.cell 8
            have x9 := hb4.cell 9
            have x10 := hb4.cell 10
            have x11 := hb4.cell 11
            simp at x0 x1 x2 x3 x4 x5 x6 x7 x8 x9 x10 x11
            have HE4 := hid (HE3.out.ext hE4)
            clear hE4 hb4 HB3 HC3 HT
            cases b with
            | true =>
              go_wp2
              go_ret
              refine bes_one HE4.out H1.out H2.out H3.out ?_
              unfold besL; rw [if_neg HNN.out, if_neg (by rw [HF.out]; decide), if_neg (by rw [HF.out]; decide), if_neg (by rw [HBB.out]; simp)]
            | false =>
              go_wp2
              go_ret
              refine ⟨_, rfl, ?_, HE4.out⟩
              rw [show besL x y left = [] from by unfold besL; rw [if_neg HNN.out, if_neg (by rw [HF.out]; decide), if_neg (by rw [HF.out]; decide), if_pos ⟨HF.out, HKEY.out, HBB.out⟩]]
              exact Own.nil _ _ _ _
        · have h5X : ((f : Int) == 5) = false := by simp; omega
          have H5 := hid h5
          clear h5
          go_wp2
          go_ret
          refine bes_one HE3.out H1.out H2.out H3.out ?_
          unfold besL; rw [if_neg HNN.out, if_neg (by rw [HF.out]; exact H4.out), if_neg (by rw [HF.out]; exact H3F.out), if_neg (by rw [HF.out]; exact fun h => H5.out h.1)]
  · have q0 : ((f : Int) == (g : Int)) = false := by simp; omega
    have HFG := hid hfg
    clear hfg
    go_wp2
    go_ret
    refine bes_one HE3.out H1.out H2.out H3.out ?_
    unfold besL; rw [HF.out, HG.out, if_pos HFG.out]
end Go.Proofs.YtioplgfopillnaaDoor
