/- text.shift by contract. -/
import Derived.Test.YtepbodopnndfgaaDoorTextD
set_option linter.unusedSimpArgs false
set_option linter.unusedVariables false
namespace Go.Proofs.YtepbodopnndfgaaDoor
open Go.RowKit
set_option linter.unusedVariables false

set_option maxRecDepth 100000 in
set_option maxHeartbeats 6400000 in
theorem shift_any (k : UInt8) (pA : Option Addr) (pn pc : Nat) (key : ByteArray) (j : Int) (y0 : UInt8) (y1 : Int) (y2 : ByteArray) (A3 : Option Addr) (n3 c3 : Nat) (A4 : Option Addr) (n4 c4 : Nat) (s : ByteArray) (bk : UInt8) (p' key' j' u0 u1 u2 u3 u4 : Value) (bs : ByteArray) (ai an bi bn : Int) (left : Bool) (hai : Tm ai) (hbi : Tm bi) (hbn : Tm bn) (hbs : bs.size ≤ 140737488355328) (w : World) :
    Calls Tryd.prog 15 #[tcV (U8 k) (.slice pA pn pc) (.string key) ai (.int .i64 j) an (U8 y0) (.int .i64 y1) (.string y2) (.slice A3 n3 c3) (.slice A4 n4 c4) (.string s), tcV (U8 bk) p' key' bi j' bn u0 u1 u2 u3 u4 (.string bs), .bool left] w
      fun e w' => e = .returned (tcV (U8 k) (.slice pA pn pc) (.string key) (shiftL ai bk bi bn (Lib.runeCount bs : Nat) left) (.int .i64 j) an (U8 y0) (.int .i64 y1) (.string y2) (.slice A3 n3 c3) (.slice A4 n4 c4) (.string s)) ∧ Ext w w' := by
  obtain ⟨hai1, hai2⟩ := hai
  obtain ⟨hbn1, hbn2⟩ := hbn
  obtain ⟨hbi1, hbi2⟩ := hbi
  obtain ⟨Wb, hWb⟩ : ∃ Wb, (w.alloc (.cells (tcA (U8 k) (.slice pA pn pc) (.string key) ai (.int .i64 j) an (U8 y0) (.int .i64 y1) (.string y2) (.slice A3 n3 c3) (.slice A4 n4 c4) (.string s)) TCOMP)).alloc (.cells (tcA (U8 bk) p' key' bi j' bn u0 u1 u2 u3 u4 (.string bs)) TCOMP) = Wb := ⟨_, rfl⟩
  have hzb : Wb.heap.size = w.heap.size + 2 := by rw [← hWb]; simp
  obtain ⟨W0, hW0⟩ : ∃ W0, Wb.alloc (.cells #[.int .u8 0, .slice none 0 0, .string ⟨#[]⟩, .int .i64 0, .int .i64 0, .int .i64 0, .int .u8 0, .int .i64 0, .string ⟨#[]⟩, .slice none 0 0, .slice none 0 0, .string ⟨#[]⟩] TCOMP) = W0 := ⟨_, rfl⟩
  have hE0 : Ext w W0 := by rw [← hW0, ← hWb]; exact (((Keep.refl _ _).alloc _).alloc _).alloc _
  have hsz : W0.heap.size = w.heap.size + 3 := by rw [← hW0]; simp [hzb]
  have ha : Blk W0 w.heap.size TCOMP (tcA (U8 k) (.slice pA pn pc) (.string key) ai (.int .i64 j) an (U8 y0) (.int .i64 y1) (.string y2) (.slice A3 n3 c3) (.slice A4 n4 c4) (.string s)) := by rw [← hW0, ← hWb]; exact ((Blk.new w TCOMP _).alloc _).alloc _
  have hb : Blk W0 (w.heap.size + 1) TCOMP (tcA (U8 bk) p' key' bi j' bn u0 u1 u2 u3 u4 (.string bs)) := by
    have := (Blk.new (w.alloc (.cells (tcA (U8 k) (.slice pA pn pc) (.string key) ai (.int .i64 j) an (U8 y0) (.int .i64 y1) (.string y2) (.slice A3 n3 c3) (.slice A4 n4 c4) (.string s)) TCOMP)) TCOMP (tcA (U8 bk) p' key' bi j' bn u0 u1 u2 u3 u4 (.string bs))).alloc (.cells #[.int .u8 0, .slice none 0 0, .string ⟨#[]⟩, .int .i64 0, .int .i64 0, .int .i64 0, .int .u8 0, .int .i64 0, .string ⟨#[]⟩, .slice none 0 0, .slice none 0 0, .string ⟨#[]⟩] TCOMP)
    rw [World.size_alloc] at this
    rw [← hW0, ← hWb]; exact this
  have hc : Blk W0 (w.heap.size + 2) TCOMP #[.int .u8 0, .slice none 0 0, .string ⟨#[]⟩, .int .i64 0, .int .i64 0, .int .i64 0, .int .u8 0, .int .i64 0, .string ⟨#[]⟩, .slice none 0 0, .slice none 0 0, .string ⟨#[]⟩] := by rw [← hW0, ← hzb]; exact Blk.new _ _ _
  have hrb : Lib.runeCount bs ≤ bs.size := Lib.runeCount_le bs
  obtain ⟨rb, hr⟩ : ∃ rb : Nat, Lib.runeCount bs = rb := ⟨_, rfl⟩
  rw [hr] at hrb ⊢
  have HRB := hid hr
  have HLEN := hid (tlen_any bs hbs)
  have HW0 := hid (show ((w.alloc (.cells (tcA (U8 k) (.slice pA pn pc) (.string key) ai (.int .i64 j) an (U8 y0) (.int .i64 y1) (.string y2) (.slice A3 n3 c3) (.slice A4 n4 c4) (.string s)) TCOMP)).alloc (.cells (tcA (U8 bk) p' key' bi j' bn u0 u1 u2 u3 u4 (.string bs)) TCOMP)).alloc (.cells #[.int .u8 0, .slice none 0 0, .string ⟨#[]⟩, .int .i64 0, .int .i64 0, .int .i64 0, .int .u8 0, .int .i64 0, .string ⟨#[]⟩, .slice none 0 0, .slice none 0 0, .string ⟨#[]⟩] TCOMP) = W0 from by rw [hWb, hW0])
  have HE0 := hid hE0
  have HA := hid ha
  have HB := hid hb
  have HC := hid hc
  have HSZ := hid hsz
  obtain ⟨sh, hsh⟩ : ∃ sh, shiftL ai bk bi bn rb left = sh := ⟨_, rfl⟩
  rw [hsh]
  have HSH := hid hsh
  clear hW0 hE0 ha hb hc hsz hr hWb hzb hsh
  by_cases hk : bk = 8
  · subst hk
    by_cases hm : bi < ai ∨ (bi = ai ∧ left = false)
    · have hs2 : sh = ai + rb := by rw [← HSH.out]; unfold shiftL; rw [if_pos rfl, if_pos hm]
      have HS2 := hid hs2
      have hmm : bi < ai ∨ (¬ bi < ai ∧ (bi == ai) = true ∧ left = false) := by
        rcases hm with h | ⟨h1, h2⟩
        · exact .inl h
        · exact .inr ⟨by omega, by simpa using h1, h2⟩
      clear hs2 hm
      rcases hmm with hm | ⟨hm1, hm2, rfl⟩
      all_goals
        go_enter Tryd.func15, Tryd.ntmps15
        go_wp2_with fail
        rw [HW0.out]
        obtain ⟨a0, a1, a2, a3, a4, a5, a6, a7, a8, a9, a10, a11⟩ := blk12 HA.out
        have b11 := HB.out.cell 11
        simp only [List.getElem?_toArray, List.getElem?_cons_succ, List.getElem?_cons_zero] at b11
        refine wp_region_parts [0, 2] [1, 3, 4, 5] [6, 7] (specOf [(4, fun v w => v = .int .i64 (rb : Nat))]) (fun w' => Ext W0 w') (stable_cons (fun v w w' h he => h) stable_nil) (stableC_ext _) (by kernel_rfl) (by kernel_rfl) (Keep.drew (Keep.refl _ _)) ?_
        iterate 2
          (try simp only [Act.put, List.setIfInBounds_toArray, List.set_cons_zero, List.set_cons_succ])
          refine pure_run rfl rfl ?_
          apply Exists.intro
          refine ⟨fun w' => ?_, ?_⟩
          · go_simp
            rfl
        refine pure_nil ?_
        iterate 2
          (try simp only [Act.put, List.setIfInBounds_toArray, List.set_cons_zero, List.set_cons_succ])
          refine growP_run rfl rfl rfl ?_
          apply Exists.intro
          refine ⟨fun w' hC hK => ?_, ?_⟩
          · have a3 := (hC.cell (lt_of_cell a3) id).trans a3
            have b11 := (hC.cell (lt_of_cell b11) id).trans b11
            go_simp
            rfl
        (try simp only [Act.put, List.setIfInBounds_toArray, List.set_cons_zero, List.set_cons_succ])
        refine growP_eff rfl rfl rfl (fun w' hC hK => ?_) (fun v4 hv4 => ?_)
        · unfold growAt
          go_simp
          refine grow_call ((HLEN.out w').mono ?_)
          rintro e w'' ⟨rfl, h1⟩
          exact ⟨_, rfl, h1, by rw [HRB.out]⟩
        obtain ⟨_, _, rfl⟩ := hv4.head
        clear hv4
        iterate 1
          (try simp only [Act.put, List.setIfInBounds_toArray, List.set_cons_zero, List.set_cons_succ])
          refine growP_run rfl rfl rfl ?_
          apply Exists.intro
          refine ⟨fun w' hC hK => ?_, ?_⟩
          · go_simp
            rfl
        refine growP_nil fun W1 hC hK => ?_
        have hC : Ext W0 W1 := hC
        have hA1 := HA.out.keep hC id
        have q3 := hA1.cell 3
        have f3 := hA1.frozen 3
        simp only [List.getElem?_toArray, List.getElem?_cons_succ, List.getElem?_cons_zero] at q3
        have hC1 := HC.out.keep hC id
        have hkA : Keep (· = w.heap.size) W1 (W1.setCell ⟨w.heap.size, 3, none⟩ (.int .i64 (ai + rb))) := (Keep.refl _ _).set1 3 _
        have HA2 := hid (hA1.set_ 3 (.int .i64 (ai + rb)))
        have HC2 := hid (hC1.keep hkA (by omega))
        have HE2 := hid (HE0.out.trans ((hC.mono fun _ _ h => h.elim : Keep (· = w.heap.size) W0 W1).trans hkA fun _ _ h => h) fun q hq e => by omega)
        clear hC hK hA1 hC1 hkA a0 a1 a2 a3 a4 a5 a6 a7 a8 a9 a10 a11 b11
        change wpList _ _ _ (_ :: _ :: []) _ _
        (try simp only [Act.put, List.setIfInBounds_toArray, List.set_cons_zero, List.set_cons_succ])
        go_wp2_with fail
        refine NoPanic.normal ?_
        generalize W1.setCell ⟨w.heap.size, 3, none⟩ (.int .i64 (ai + rb)) = W2 at *
        clear q3 f3
        obtain ⟨a0, a1, a2, a3, a4, a5, a6, a7, a8, a9, a10, a11⟩ := blk12 HA2.out
        obtain ⟨c0, c1, c2, c3', c4', c5, c6, c7, c8, c9, c10, c11⟩ := blk12 HC2.out
        have g0 := HC2.out.frozen 0
        have g1 := HC2.out.frozen 1
        have g2 := HC2.out.frozen 2
        have g3 := HC2.out.frozen 3
        have g4 := HC2.out.frozen 4
        have g5 := HC2.out.frozen 5
        have g6 := HC2.out.frozen 6
        have g7 := HC2.out.frozen 7
        have g8 := HC2.out.frozen 8
        have g9 := HC2.out.frozen 9
        have g10 := HC2.out.frozen 10
        have g11 := HC2.out.frozen 11
        go_wp2
        obtain ⟨r0, r1, r2, r3, r4, r5, r6, r7, r8, r9, r10, r11⟩ := blk12 (put12_blk HC2.out (U8 k) (.slice pA pn pc) (.string key) (.int .i64 (ai + rb)) (.int .i64 j) (.int .i64 an) (U8 y0) (.int .i64 y1) (.string y2) (.slice A3 n3 c3) (.slice A4 n4 c4) (.string s))
        have HEF := hid (HE2.out.trans (put12_keep W2 (w.heap.size + 2) (U8 k) (.slice pA pn pc) (.string key) (.int .i64 (ai + rb)) (.int .i64 j) (.int .i64 an) (U8 y0) (.int .i64 y1) (.string y2) (.slice A3 n3 c3) (.slice A4 n4 c4) (.string s)) fun q hq e => by omega)
        change bodyPost _ _ _ _ _ (put12 W2 (w.heap.size + 2) (U8 k) (.slice pA pn pc) (.string key) (.int .i64 (ai + rb)) (.int .i64 j) (.int .i64 an) (U8 y0) (.int .i64 y1) (.string y2) (.slice A3 n3 c3) (.slice A4 n4 c4) (.string s))
        generalize put12 W2 (w.heap.size + 2) (U8 k) (.slice pA pn pc) (.string key) (.int .i64 (ai + rb)) (.int .i64 j) (.int .i64 an) (U8 y0) (.int .i64 y1) (.string y2) (.slice A3 n3 c3) (.slice A4 n4 c4) (.string s) = WF at *
        refine bodyPost_ret (v := tcV (U8 k) (.slice pA pn pc) (.string key) (ai + rb) (.int .i64 j) an (U8 y0) (.int .i64 y1) (.string y2) (.slice A3 n3 c3) (.slice A4 n4 c4) (.string s)) (by simp [results, Tryd.results15, go_sem, r0, r1, r2, r3, r4, r5, r6, r7, r8, r9, r10, r11]) rfl ⟨by rw [HS2.out], HEF.out⟩
    · have hs2 : sh = ai := by rw [← HSH.out]; unfold shiftL; rw [if_pos rfl, if_neg hm]
      have HS2 := hid hs2
      have hmm : (¬ bi < ai ∧ (bi == ai) = false) ∨ (¬ bi < ai ∧ (bi == ai) = true ∧ left = true) := by
        by_cases h : bi = ai
        · refine .inr ⟨by omega, by simpa using h, ?_⟩
          cases left
          · exact absurd (.inr ⟨h, rfl⟩) hm
          · rfl
        · refine .inl ⟨fun h' => hm (.inl h'), by simpa using h⟩
      clear hs2 hm
      have hEF : Ext w (((w.alloc (.cells (tcA (U8 k) (.slice pA pn pc) (.string key) ai (.int .i64 j) an (U8 y0) (.int .i64 y1) (.string y2) (.slice A3 n3 c3) (.slice A4 n4 c4) (.string s)) TCOMP)).alloc (.cells (tcA (U8 8) p' key' bi j' bn u0 u1 u2 u3 u4 (.string bs)) TCOMP)).alloc (.cells #[.int .u8 k.toNat, .slice pA pn pc, .string key, .int .i64 ai, .int .i64 j, .int .i64 an, .int .u8 y0.toNat, .int .i64 y1, .string y2, .slice A3 n3 c3, .slice A4 n4 c4, .string s] TCOMP)) := (((Keep.refl _ _).alloc _).alloc _).alloc _
      have HEF := hid hEF
      clear hEF
      rcases hmm with ⟨hm1, hm2⟩ | ⟨hm1, hm2, rfl⟩
      all_goals
        go_enter Tryd.func15, Tryd.ntmps15
        go_wp2
        refine bodyPost_ret (v := tcV (U8 k) (.slice pA pn pc) (.string key) (ai) (.int .i64 j) an (U8 y0) (.int .i64 y1) (.string y2) (.slice A3 n3 c3) (.slice A4 n4 c4) (.string s)) (by simp [results, Tryd.results15, go_sem]) rfl ⟨by rw [HS2.out], HEF.out⟩
  · rw [← HSH.out, ← HRB.out]
    exact shift_del k pA pn pc key j y0 y1 y2 A3 n3 c3 A4 n4 c4 s bk p' key' j' u0 u1 u2 u3 u4 bs ai an bi bn left ⟨hai1, hai2⟩ ⟨hbi1, hbi2⟩ ⟨hbn1, hbn2⟩ hbs hk w
end Go.Proofs.YtepbodopnndfgaaDoor
