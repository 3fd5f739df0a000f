/- text.Turn by contract. -/
import Derived.Test.YtepbodopnndfgaaDoorTextE
set_option linter.unusedSimpArgs false
set_option linter.unusedVariables false
namespace Go.Proofs.YtepbodopnndfgaaDoor
open Go.RowKit
set_option linter.unusedVariables false

/-- What is to be done of a, behind b: places and numbers. -/
def tturn (ak : UInt8) (ai an : Int) (bk : UInt8) (bi bn rb : Int) (left : Bool) : List (Int × Int) :=
  if tknown ak = false ∨ tknown bk = false then [(ai, an)]
  else if ak = 8 then [(shiftL ai bk bi bn rb left, an)]
  else if bk = 8 then splitL ai an bi rb
  else if (shrinkL ai an bi bn).2 = 0 then [] else [shrinkL ai an bi bn]
theorem TextIs.from_ {k p key j v0 v1 v2 v3 v4 s : Value} {w w1 w' : World} {l : List (Int × Int)} {e : Ending} (h : TextIs k p key j v0 v1 v2 v3 v4 s w1 l e w') (hE : Ext w w1) (hs : (ETt k p key j v0 v1 v2 v3 v4 s).Ok) : TextIs k p key j v0 v1 v2 v3 v4 s w l e w' := by
  obtain ⟨v, rfl, h1, h2⟩ := h
  exact ⟨v, rfl, h1.more hs fun q _ h => Nat.le_trans hE.size h, hE.ext h2⟩
theorem ETt.ok {k p key j v0 v1 v2 v3 v4 s : Value} (h : ∀ u ∈ [k, p, key, j, v0, v1, v2, v3, v4, s], u.oneCell' = true) : (ETt k p key j v0 v1 v2 v3 v4 s).Ok where
  pos := by show 0 < 12; decide
  len := fun h => by have h := h; subst h; rfl
  one := fun hx u hu => by
    subst hx
    simp only [List.mem_cons, List.not_mem_nil, or_false] at hu h
    rcases hu with hu | hu | hu | hu | hu | hu | hu | hu | hu | hu | hu | hu
    · exact h u (by simp [hu])
    · exact h u (by simp [hu])
    · exact h u (by simp [hu])
    · rw [hu]; rfl
    · exact h u (by simp [hu])
    · rw [hu]; rfl
    all_goals exact h u (by simp [hu])
  keep := fun h _ _ => h
  more := fun h _ => h

set_option maxRecDepth 100000 in
set_option maxHeartbeats 6400000 in
theorem turn_text (ak : UInt8) (pA : Option Addr) (pn pc : Nat) (key : ByteArray) (j : Int) (y0 : UInt8) (y1 : Int) (y2 : ByteArray) (A3 : Option Addr) (n3 c3 : Nat) (A4 : Option Addr) (n4 c4 : Nat) (s : ByteArray) (bk : UInt8) (p' key' j' u0 u1 u2 u3 u4 : Value) (bs : ByteArray) (ai an bi bn : Int) (left : Bool)
    (hai : Tm ai) (han : Tm an) (hbi : Tm bi) (hbn : Tm bn) (hbs : bs.size ≤ 140737488355328) (w : World) :
    Calls Tryd.prog 9 #[tcV (U8 ak) (.slice pA pn pc) (.string key) ai (.int .i64 j) an (U8 y0) (.int .i64 y1) (.string y2) (.slice A3 n3 c3) (.slice A4 n4 c4) (.string s), tcV (U8 bk) p' key' bi j' bn u0 u1 u2 u3 u4 (.string bs), .bool left] w
      (TextIs (U8 ak) (.slice pA pn pc) (.string key) (.int .i64 j) (U8 y0) (.int .i64 y1) (.string y2) (.slice A3 n3 c3) (.slice A4 n4 c4) (.string s) w (tturn ak ai an bk bi bn (Lib.runeCount bs : Nat) left)) := by
  have HOK := hid (show (ETt (U8 ak) (.slice pA pn pc) (.string key) (.int .i64 j) (U8 y0) (.int .i64 y1) (.string y2) (.slice A3 n3 c3) (.slice A4 n4 c4) (.string s)).Ok from ETt.ok (by intro u hu; simp at hu; rcases hu with rfl | rfl | rfl | rfl | rfl | rfl | rfl | rfl | rfl | rfl <;> rfl))
  obtain ⟨W0, hW0⟩ : ∃ W0, (w.alloc (.cells (tcA (U8 ak) (.slice pA pn pc) (.string key) ai (.int .i64 j) an (U8 y0) (.int .i64 y1) (.string y2) (.slice A3 n3 c3) (.slice A4 n4 c4) (.string s)) TCOMP)).alloc (.cells (tcA (U8 bk) p' key' bi j' bn u0 u1 u2 u3 u4 (.string bs)) TCOMP) = W0 := ⟨_, rfl⟩
  have hE0 : Ext w W0 := by rw [← hW0]; exact ((Keep.refl _ _).alloc _).alloc _
  have hsz : W0.heap.size = w.heap.size + 2 := by rw [← hW0]; simp
  have ha : Blk W0 w.heap.size TCOMP (tcA (U8 ak) (.slice pA pn pc) (.string key) ai (.int .i64 j) an (U8 y0) (.int .i64 y1) (.string y2) (.slice A3 n3 c3) (.slice A4 n4 c4) (.string s)) := by rw [← hW0]; exact (Blk.new w TCOMP _).alloc _
  have hb : Blk W0 (w.heap.size + 1) TCOMP (tcA (U8 bk) p' key' bi j' bn u0 u1 u2 u3 u4 (.string bs)) := by
    have := Blk.new (w.alloc (.cells (tcA (U8 ak) (.slice pA pn pc) (.string key) ai (.int .i64 j) an (U8 y0) (.int .i64 y1) (.string y2) (.slice A3 n3 c3) (.slice A4 n4 c4) (.string s)) TCOMP)) TCOMP (tcA (U8 bk) p' key' bi j' bn u0 u1 u2 u3 u4 (.string bs))
    rw [World.size_alloc] at this
    rw [← hW0]; exact this
  have HT := hid (show tturn ak ai an bk bi bn (Lib.runeCount bs : Nat) left = _ from rfl)
  generalize hR : tturn ak ai an bk bi bn (Lib.runeCount bs : Nat) left = R
  have HR := hid hR
  have HA := hid ha
  have HB := hid hb
  have HE0 := hid hE0
  have HK := hid (fun (k : UInt8) p key j nn v0 v1 v2 v3 v4 s i w => tknown_any k p key j nn v0 v1 v2 v3 v4 s i w)
  clear ha hb hE0 hR HT
  have hres1 : ∀ {W : World}, Ext w W → R = [(ai, an)] → TextIs (U8 ak) (.slice pA pn pc) (.string key) (.int .i64 j) (U8 y0) (.int .i64 y1) (.string y2) (.slice A3 n3 c3) (.slice A4 n4 c4) (.string s) w R (.returned (.slice (some ⟨W.heap.size, 0, none⟩) 1 1)) (W.alloc (.cells (tcA (U8 ak) (.slice pA pn pc) (.string key) ai (.int .i64 j) an (U8 y0) (.int .i64 y1) (.string y2) (.slice A3 n3 c3) (.slice A4 n4 c4) (.string s)) TCOMP)) := fun hE hr => by
    rw [hr]; exact text_one _ _ _ _ _ _ _ _ _ _ hE rfl
  have HRES := hid (fun (W : World) (hE : Ext w W) (hr : R = [(ai, an)]) => hres1 hE hr)
  clear hres1 hsz
  by_cases hka : tknown ak = false
  · have HRR := hid (show R = [(ai, an)] from by rw [← HR.out]; unfold tturn; rw [if_pos (.inl hka)])
    have hka' := hid hka
    clear hka
    obtain ⟨a0, a1, a2, a3, a4, a5, a6, a7, a8, a9, a10, a11⟩ := blk12 HA.out
    obtain ⟨b0, b1, b2, b3, b4, b5, b6, b7, b8, b9, b10, b11⟩ := blk12 HB.out
    go_enter Tryd.func9, Tryd.ntmps9
    go_wp2_with fail
    clear a0 a1 a2 a3 a4 a5 a6 a7 a8 a9 a10 a11 b0 b1 b2 b3 b4 b5 b6 b7 b8 b9 b10 b11
    refine (tknown_any (ak) (.slice pA pn pc) (.string key) (.int .i64 j) (.int .i64 an) (U8 y0) (.int .i64 y1) (.string y2) (.slice A3 n3 c3) (.slice A4 n4 c4) (.string s) (.int .i64 ai) W0).mono ?_
    rintro e W1 ⟨rfl, hE⟩
    rw [hka'.out]
    have HA1 := hid (HA.out.keep hE id)
    have HB1 := hid (HB.out.keep hE id)
    have HE1 := hid (HE0.out.ext hE)
    clear hE
    obtain ⟨a0, a1, a2, a3, a4, a5, a6, a7, a8, a9, a10, a11⟩ := blk12 HA1.out
    obtain ⟨b0, b1, b2, b3, b4, b5, b6, b7, b8, b9, b10, b11⟩ := blk12 HB1.out
    go_wp2_with fail
    go_ret
    exact HRES.out W1 HE1.out HRR.out
  have hka1 : tknown ak = true := by cases h : tknown ak; exact absurd h hka; rfl
  by_cases hkb : tknown bk = false
  · have HRR := hid (show R = [(ai, an)] from by rw [← HR.out]; unfold tturn; rw [if_pos (.inr hkb)])
    have hka' := hid hka1
    have hkb' := hid hkb
    clear hka hka1 hkb
    obtain ⟨a0, a1, a2, a3, a4, a5, a6, a7, a8, a9, a10, a11⟩ := blk12 HA.out
    obtain ⟨b0, b1, b2, b3, b4, b5, b6, b7, b8, b9, b10, b11⟩ := blk12 HB.out
    go_enter Tryd.func9, Tryd.ntmps9
    go_wp2_with fail
    clear a0 a1 a2 a3 a4 a5 a6 a7 a8 a9 a10 a11 b0 b1 b2 b3 b4 b5 b6 b7 b8 b9 b10 b11
    refine (tknown_any (ak) (.slice pA pn pc) (.string key) (.int .i64 j) (.int .i64 an) (U8 y0) (.int .i64 y1) (.string y2) (.slice A3 n3 c3) (.slice A4 n4 c4) (.string s) (.int .i64 ai) W0).mono ?_
    rintro e W1 ⟨rfl, hE⟩
    rw [hka'.out]
    have HA1 := hid (HA.out.keep hE id)
    have HB1 := hid (HB.out.keep hE id)
    have HE1 := hid (HE0.out.ext hE)
    clear hE
    obtain ⟨a0, a1, a2, a3, a4, a5, a6, a7, a8, a9, a10, a11⟩ := blk12 HA1.out
    obtain ⟨b0, b1, b2, b3, b4, b5, b6, b7, b8, b9, b10, b11⟩ := blk12 HB1.out
    go_wp2_with fail
    clear a0 a1 a2 a3 a4 a5 a6 a7 a8 a9 a10 a11 b0 b1 b2 b3 b4 b5 b6 b7 b8 b9 b10 b11
    refine (tknown_any (bk) p' key' j' (.int .i64 bn) u0 u1 u2 u3 u4 (.string bs) (.int .i64 bi) W1).mono ?_
    rintro e W2 ⟨rfl, hE⟩
    rw [hkb'.out]
    have HA2 := hid (HA1.out.keep hE id)
    have HB2 := hid (HB1.out.keep hE id)
    have HE2 := hid (HE1.out.ext hE)
    clear hE
    obtain ⟨a0, a1, a2, a3, a4, a5, a6, a7, a8, a9, a10, a11⟩ := blk12 HA2.out
    obtain ⟨b0, b1, b2, b3, b4, b5, b6, b7, b8, b9, b10, b11⟩ := blk12 HB2.out
    go_wp2_with fail
    go_ret
    exact HRES.out W2 HE2.out HRR.out
  have hkb1 : tknown bk = true := by cases h : tknown bk; exact absurd h hkb; rfl
  have hka' := hid hka1
  have hkb' := hid hkb1
  have hno : ¬ (tknown ak = false ∨ tknown bk = false) := fun h => h.elim hka hkb
  have h8a : ak = 8 ∨ ak = 9 := by
    rcases tkind_cases ak with h | h | ⟨h, _⟩
    · exact .inl h
    · exact .inr h
    · exact absurd h hka
  have h8b : bk = 8 ∨ bk = 9 := by
    rcases tkind_cases bk with h | h | ⟨h, _⟩
    · exact .inl h
    · exact .inr h
    · exact absurd h hkb
  have HNO := hid hno
  clear hka hkb hka1 hkb1 hno HRES
  rcases h8a with rfl | rfl
  · have HRR := hid (show R = [(shiftL ai bk bi bn (Lib.runeCount bs : Nat) left, an)] from by rw [← HR.out]; unfold tturn; rw [if_neg HNO.out, if_pos rfl])
    clear HNO HR h8b
    obtain ⟨a0, a1, a2, a3, a4, a5, a6, a7, a8, a9, a10, a11⟩ := blk12 HA.out
    obtain ⟨b0, b1, b2, b3, b4, b5, b6, b7, b8, b9, b10, b11⟩ := blk12 HB.out
    go_enter Tryd.func9, Tryd.ntmps9
    go_wp2_with fail
    clear a0 a1 a2 a3 a4 a5 a6 a7 a8 a9 a10 a11 b0 b1 b2 b3 b4 b5 b6 b7 b8 b9 b10 b11
    refine (tknown_any (8) (.slice pA pn pc) (.string key) (.int .i64 j) (.int .i64 an) (U8 y0) (.int .i64 y1) (.string y2) (.slice A3 n3 c3) (.slice A4 n4 c4) (.string s) (.int .i64 ai) W0).mono ?_
    rintro e W1 ⟨rfl, hE⟩
    rw [hka'.out]
    have HA1 := hid (HA.out.keep hE id)
    have HB1 := hid (HB.out.keep hE id)
    have HE1 := hid (HE0.out.ext hE)
    clear hE
    obtain ⟨a0, a1, a2, a3, a4, a5, a6, a7, a8, a9, a10, a11⟩ := blk12 HA1.out
    obtain ⟨b0, b1, b2, b3, b4, b5, b6, b7, b8, b9, b10, b11⟩ := blk12 HB1.out
    go_wp2_with fail
    clear a0 a1 a2 a3 a4 a5 a6 a7 a8 a9 a10 a11 b0 b1 b2 b3 b4 b5 b6 b7 b8 b9 b10 b11
    refine (tknown_any (bk) p' key' j' (.int .i64 bn) u0 u1 u2 u3 u4 (.string bs) (.int .i64 bi) W1).mono ?_
    rintro e W2 ⟨rfl, hE⟩
    rw [hkb'.out]
    have HA2 := hid (HA1.out.keep hE id)
    have HB2 := hid (HB1.out.keep hE id)
    have HE2 := hid (HE1.out.ext hE)
    clear hE
    obtain ⟨a0, a1, a2, a3, a4, a5, a6, a7, a8, a9, a10, a11⟩ := blk12 HA2.out
    obtain ⟨b0, b1, b2, b3, b4, b5, b6, b7, b8, b9, b10, b11⟩ := blk12 HB2.out
    go_wp2_with fail
    clear a0 a1 a2 a3 a4 a5 a6 a7 a8 a9 a10 a11 b0 b1 b2 b3 b4 b5 b6 b7 b8 b9 b10 b11
    refine (shift_any 8 pA pn pc key j y0 y1 y2 A3 n3 c3 A4 n4 c4 s bk p' key' j' u0 u1 u2 u3 u4 bs ai an bi bn left hai hbi hbn hbs W2).mono ?_
    rintro e W3 ⟨rfl, hE⟩
    have HE3 := hid (HE2.out.ext hE)
    clear hE
    generalize shiftL ai bk bi bn (Lib.runeCount bs : Nat) left = sh at *
    go_wp2
    go_ret
    rw [HRR.out]
    exact text_one _ _ _ _ _ _ _ _ _ _ HE3.out rfl
  · rcases h8b with rfl | rfl
    · have HRR := hid (show R = splitL ai an bi (Lib.runeCount bs : Nat) from by rw [← HR.out]; unfold tturn; rw [if_neg HNO.out, if_neg (by decide), if_pos rfl])
      clear HNO HR
      obtain ⟨a0, a1, a2, a3, a4, a5, a6, a7, a8, a9, a10, a11⟩ := blk12 HA.out
      obtain ⟨b0, b1, b2, b3, b4, b5, b6, b7, b8, b9, b10, b11⟩ := blk12 HB.out
      go_enter Tryd.func9, Tryd.ntmps9
      go_wp2_with fail
      clear a0 a1 a2 a3 a4 a5 a6 a7 a8 a9 a10 a11 b0 b1 b2 b3 b4 b5 b6 b7 b8 b9 b10 b11
      refine (tknown_any (9) (.slice pA pn pc) (.string key) (.int .i64 j) (.int .i64 an) (U8 y0) (.int .i64 y1) (.string y2) (.slice A3 n3 c3) (.slice A4 n4 c4) (.string s) (.int .i64 ai) W0).mono ?_
      rintro e W1 ⟨rfl, hE⟩
      rw [hka'.out]
      have HA1 := hid (HA.out.keep hE id)
      have HB1 := hid (HB.out.keep hE id)
      have HE1 := hid (HE0.out.ext hE)
      clear hE
      obtain ⟨a0, a1, a2, a3, a4, a5, a6, a7, a8, a9, a10, a11⟩ := blk12 HA1.out
      obtain ⟨b0, b1, b2, b3, b4, b5, b6, b7, b8, b9, b10, b11⟩ := blk12 HB1.out
      go_wp2_with fail
      clear a0 a1 a2 a3 a4 a5 a6 a7 a8 a9 a10 a11 b0 b1 b2 b3 b4 b5 b6 b7 b8 b9 b10 b11
      refine (tknown_any (8) p' key' j' (.int .i64 bn) u0 u1 u2 u3 u4 (.string bs) (.int .i64 bi) W1).mono ?_
      rintro e W2 ⟨rfl, hE⟩
      rw [hkb'.out]
      have HA2 := hid (HA1.out.keep hE id)
      have HB2 := hid (HB1.out.keep hE id)
      have HE2 := hid (HE1.out.ext hE)
      clear hE
      obtain ⟨a0, a1, a2, a3, a4, a5, a6, a7, a8, a9, a10, a11⟩ := blk12 HA2.out
      obtain ⟨b0, b1, b2, b3, b4, b5, b6, b7, b8, b9, b10, b11⟩ := blk12 HB2.out
      go_wp2_with fail
      clear a0 a1 a2 a3 a4 a5 a6 a7 a8 a9 a10 a11 b0 b1 b2 b3 b4 b5 b6 b7 b8 b9 b10 b11
      refine (split_any 9 pA pn pc key j y0 y1 y2 A3 n3 c3 A4 n4 c4 s (U8 8) p' key' j' u0 u1 u2 u3 u4 bs ai an bi bn hai han hbi hbs W2).mono ?_
      rintro e W3 ⟨v, rfl, h1, h2⟩
      obtain ⟨A9, c9, rfl, _⟩ := h1.shape
      have HF := hid (TextIs.from_ ⟨_, rfl, h1, h2⟩ HE2.out HOK.out)
      clear h1 h2
      generalize (splitL ai an bi (Lib.runeCount bs : Nat)).length = q at *
      go_wp2
      go_ret
      rw [HRR.out]
      exact HF.out
    · have HRR := hid (show R = (if (shrinkL ai an bi bn).2 = 0 then [] else [shrinkL ai an bi bn]) from by rw [← HR.out]; unfold tturn; rw [if_neg HNO.out, if_neg (by decide), if_neg (by decide)])
      clear HNO HR
      obtain ⟨a0, a1, a2, a3, a4, a5, a6, a7, a8, a9, a10, a11⟩ := blk12 HA.out
      obtain ⟨b0, b1, b2, b3, b4, b5, b6, b7, b8, b9, b10, b11⟩ := blk12 HB.out
      go_enter Tryd.func9, Tryd.ntmps9
      go_wp2_with fail
      clear a0 a1 a2 a3 a4 a5 a6 a7 a8 a9 a10 a11 b0 b1 b2 b3 b4 b5 b6 b7 b8 b9 b10 b11
      refine (tknown_any (9) (.slice pA pn pc) (.string key) (.int .i64 j) (.int .i64 an) (U8 y0) (.int .i64 y1) (.string y2) (.slice A3 n3 c3) (.slice A4 n4 c4) (.string s) (.int .i64 ai) W0).mono ?_
      rintro e W1 ⟨rfl, hE⟩
      rw [hka'.out]
      have HA1 := hid (HA.out.keep hE id)
      have HB1 := hid (HB.out.keep hE id)
      have HE1 := hid (HE0.out.ext hE)
      clear hE
      obtain ⟨a0, a1, a2, a3, a4, a5, a6, a7, a8, a9, a10, a11⟩ := blk12 HA1.out
      obtain ⟨b0, b1, b2, b3, b4, b5, b6, b7, b8, b9, b10, b11⟩ := blk12 HB1.out
      go_wp2_with fail
      clear a0 a1 a2 a3 a4 a5 a6 a7 a8 a9 a10 a11 b0 b1 b2 b3 b4 b5 b6 b7 b8 b9 b10 b11
      refine (tknown_any (9) p' key' j' (.int .i64 bn) u0 u1 u2 u3 u4 (.string bs) (.int .i64 bi) W1).mono ?_
      rintro e W2 ⟨rfl, hE⟩
      rw [hkb'.out]
      have HA2 := hid (HA1.out.keep hE id)
      have HB2 := hid (HB1.out.keep hE id)
      have HE2 := hid (HE1.out.ext hE)
      clear hE
      obtain ⟨a0, a1, a2, a3, a4, a5, a6, a7, a8, a9, a10, a11⟩ := blk12 HA2.out
      obtain ⟨b0, b1, b2, b3, b4, b5, b6, b7, b8, b9, b10, b11⟩ := blk12 HB2.out
      go_wp2_with fail
      clear a0 a1 a2 a3 a4 a5 a6 a7 a8 a9 a10 a11 b0 b1 b2 b3 b4 b5 b6 b7 b8 b9 b10 b11
      refine (shrink_any (U8 9) (.slice pA pn pc) (.string key) (.int .i64 j) (U8 y0) (.int .i64 y1) (.string y2) (.slice A3 n3 c3) (.slice A4 n4 c4) (.string s) (U8 9) p' key' j' u0 u1 u2 u3 u4 (.string bs) ai an bi bn hai han hbi hbn W2).mono ?_
      rintro e W3 ⟨v, rfl, h1, h2⟩
      obtain ⟨A9, c9, rfl, _⟩ := h1.shape
      have HF := hid (TextIs.from_ ⟨_, rfl, h1, h2⟩ HE2.out HOK.out)
      clear h1 h2
      generalize (if (shrinkL ai an bi bn).2 = 0 then ([] : List (Int × Int)) else [shrinkL ai an bi bn]) = R2 at *
      generalize R2.length = q at *
      go_wp2
      go_ret
      rw [HRR.out]
      exact HF.out
end Go.Proofs.YtepbodopnndfgaaDoor
