/- The reference's split by contract. -/
import Derived.Test.YtepbodopnndfgaaDoorTextS
set_option linter.unusedSimpArgs false
set_option linter.unusedVariables false
namespace Go.Proofs.YtepbodopnndfgaaDoor
open Go.RowKit
set_option linter.unusedVariables false

set_option maxRecDepth 100000 in
set_option maxHeartbeats 3200000 in
theorem rsplit_any (k : UInt8) (pA : Option Addr) (pn pc : Nat) (key : ByteArray) (j : Int) (y0 : UInt8) (y1 : Int) (y2 : ByteArray) (A3 : Option Addr) (n3 c3 : Nat) (A4 : Option Addr) (n4 c4 : Nat) (s : ByteArray) (bk : UInt8) (p' key' j' u0 u1 u2 u3 u4 : Value) (bs : ByteArray) (ai an bi bn : Int) (hai : Tm ai) (han : Tm an) (hbi : Tm bi) (hbs : bs.size ≤ 100000) (w : World) (hD : DecAny w) :
    Calls Tryd.prog 19 #[tcV (U8 k) (.slice pA pn pc) (.string key) ai (.int .i64 j) an (U8 y0) (.int .i64 y1) (.string y2) (.slice A3 n3 c3) (.slice A4 n4 c4) (.string s), tcV (U8 bk) p' key' bi j' bn u0 u1 u2 u3 u4 (.string bs)] w
      (TextIs (U8 k) (.slice pA pn pc) (.string key) (.int .i64 j) (U8 y0) (.int .i64 y1) (.string y2) (.slice A3 n3 c3) (.slice A4 n4 c4) (.string s) w (splitL ai an bi (Lib.runeCount bs : Nat))) := by
  obtain ⟨hai1, hai2⟩ := hai
  obtain ⟨han1, han2⟩ := han
  obtain ⟨hbi1, hbi2⟩ := hbi
  obtain ⟨W0, hW0⟩ : ∃ W0, (w.alloc (.cells (tcA (U8 k) (.slice pA pn pc) (.string key) ai (.int .i64 j) an (U8 y0) (.int .i64 y1) (.string y2) (.slice A3 n3 c3) (.slice A4 n4 c4) (.string s)) TCOMP)).alloc (.cells (tcA (U8 bk) p' key' bi j' bn u0 u1 u2 u3 u4 (.string bs)) TCOMP) = W0 := ⟨_, rfl⟩
  have hE0 : Ext w W0 := by rw [← hW0]; exact ((Keep.refl _ _).alloc _).alloc _
  have hsz : W0.heap.size = w.heap.size + 2 := by rw [← hW0]; simp
  have ha : Blk W0 w.heap.size TCOMP (tcA (U8 k) (.slice pA pn pc) (.string key) ai (.int .i64 j) an (U8 y0) (.int .i64 y1) (.string y2) (.slice A3 n3 c3) (.slice A4 n4 c4) (.string s)) := by rw [← hW0]; exact (Blk.new w TCOMP _).alloc _
  have hb : Blk W0 (w.heap.size + 1) TCOMP (tcA (U8 bk) p' key' bi j' bn u0 u1 u2 u3 u4 (.string bs)) := by
    have := Blk.new (w.alloc (.cells (tcA (U8 k) (.slice pA pn pc) (.string key) ai (.int .i64 j) an (U8 y0) (.int .i64 y1) (.string y2) (.slice A3 n3 c3) (.slice A4 n4 c4) (.string s)) TCOMP)) TCOMP (tcA (U8 bk) p' key' bi j' bn u0 u1 u2 u3 u4 (.string bs))
    rw [World.size_alloc] at this
    rw [← hW0]; exact this
  have hrb : Lib.runeCount bs ≤ bs.size := Lib.runeCount_le bs
  have HLEN := hid (rlen_any bs hbs W0 (hD.ext hE0))
  obtain ⟨rb, hr⟩ : ∃ rb : Nat, Lib.runeCount bs = rb := ⟨_, rfl⟩
  rw [hr] at hrb ⊢
  have HRB := hid hr
  have HSZ := hid hsz
  have HA := hid ha
  have HE0 := hid hE0
  have HB := hid hb
  have b11 := hb.cell 11
  simp only [List.getElem?_toArray, List.getElem?_cons_succ, List.getElem?_cons_zero] at b11
  clear hsz ha hb hE0 hr hD
  go_enter Tryd.func19, Tryd.ntmps19
  go_wp2_with fail
  refine HLEN.out.mono ?_
  rintro e W1 ⟨rfl, hE1⟩
  rw [HRB.out]
  have HA1 := hid (HA.out.keep hE1 id)
  have hB1 := HB.out.keep hE1 id
  have HE1 := hid (HE0.out.ext hE1)
  have HLT := hid HA1.out.lt
  have b3 := hB1.cell 3
  simp at b3
  obtain ⟨a0, a1, a2, a3, a4, a5, a6, a7, a8, a9, a10, a11⟩ := blk12 HA1.out
  have f3 := HA1.out.frozen 3
  clear hE1 hB1 HLEN HA HB HE0 HRB HSZ b11 hW0
  by_cases h1 : bi ≤ ai
  · have HR := hid (show splitL ai an bi rb = [(ai + rb, an)] from by unfold splitL; rw [if_pos (by omega)])
    generalize splitL ai an bi rb = R at *
    obtain ⟨W2, hW2⟩ : ∃ W2, W1.setCell ⟨w.heap.size, 3, none⟩ (.int .i64 (ai + rb)) = W2 := ⟨_, rfl⟩
    have hk2 : Keep (· = w.heap.size) W1 W2 := by rw [← hW2]; exact (Keep.refl _ _).set1 3 _
    have ha2 : Blk W2 w.heap.size TCOMP _ := hW2 ▸ HA1.out.set_ 3 (.int .i64 (ai + rb))
    obtain ⟨c0, c1, c2, c3', c4', c5, c6, c7, c8, c9, c10, c11⟩ := blk12 ha2
    have HE2 := hid (HE1.out.trans hk2 fun q hq e => by omega)
    clear hk2 ha2
    go_wp2
    go_ret
    rw [HR.out]
    exact text_one _ _ _ _ _ _ _ _ _ _ HE2.out rfl
  · by_cases h2 : ai + an ≤ bi
    · have HR := hid (show splitL ai an bi rb = [(ai, an)] from by unfold splitL; rw [if_neg (by omega), if_pos (by omega)])
      generalize splitL ai an bi rb = R at *
      go_wp2
      go_ret
      rw [HR.out]
      exact text_one _ _ _ _ _ _ _ _ _ _ HE1.out rfl
    · have HR := hid (show splitL ai an bi rb = [(ai, bi - ai), (ai + rb, an - (bi - ai))] from by unfold splitL; rw [if_neg (by omega), if_neg (by omega)])
      generalize splitL ai an bi rb = R at *
      obtain ⟨Wc, hWc⟩ : ∃ Wc, W1.alloc (.cells #[.int .u8 k.toNat, .slice pA pn pc, .string key, .int .i64 (ai), .int .i64 j, .int .i64 (an), .int .u8 y0.toNat, .int .i64 y1, .string y2, .slice A3 n3 c3, .slice A4 n4 c4, .string s] TCOMP) = Wc := ⟨_, rfl⟩
      have hEc : Ext W1 Wc := by rw [← hWc]; exact (Keep.refl _ _).alloc _
      have hc : Blk Wc W1.heap.size TCOMP #[U8 k, .slice pA pn pc, .string key, .int .i64 (ai), .int .i64 j, .int .i64 (an), U8 y0, .int .i64 y1, .string y2, .slice A3 n3 c3, .slice A4 n4 c4, .string s] := by rw [← hWc]; exact Blk.new _ _ _
      have hac := HA1.out.keep hEc id
      obtain ⟨Wd, hWd⟩ : ∃ Wd, Wc.setCell ⟨w.heap.size, 5, none⟩ (.int .i64 (bi - ai)) = Wd := ⟨_, rfl⟩
      have hkd : Keep (· = w.heap.size) Wc Wd := by rw [← hWd]; exact (Keep.refl _ _).set1 5 _
      have had : Blk Wd w.heap.size TCOMP #[U8 k, .slice pA pn pc, .string key, .int .i64 (ai), .int .i64 j, .int .i64 (bi - ai), U8 y0, .int .i64 y1, .string y2, .slice A3 n3 c3, .slice A4 n4 c4, .string s] := hWd ▸ hac.set_ 5 (.int .i64 (bi - ai))
      have hlt := HLT.out
      have hcd := hc.keep hkd (by omega)
      obtain ⟨We, hWe⟩ : ∃ We, Wd.setCell ⟨W1.heap.size, 5, none⟩ (.int .i64 (an - (bi - ai))) = We := ⟨_, rfl⟩
      have hke : Keep (· = W1.heap.size) Wd We := by rw [← hWe]; exact (Keep.refl _ _).set1 5 _
      have hce : Blk We W1.heap.size TCOMP #[U8 k, .slice pA pn pc, .string key, .int .i64 (ai), .int .i64 j, .int .i64 (an - (bi - ai)), U8 y0, .int .i64 y1, .string y2, .slice A3 n3 c3, .slice A4 n4 c4, .string s] := hWe ▸ hcd.set_ 5 (.int .i64 (an - (bi - ai)))
      have hae := had.keep hke (by omega)
      obtain ⟨Wf, hWf⟩ : ∃ Wf, We.setCell ⟨W1.heap.size, 3, none⟩ (.int .i64 (ai + rb)) = Wf := ⟨_, rfl⟩
      have hkf : Keep (· = W1.heap.size) We Wf := by rw [← hWf]; exact (Keep.refl _ _).set1 3 _
      have hcf : Blk Wf W1.heap.size TCOMP #[U8 k, .slice pA pn pc, .string key, .int .i64 (ai + rb), .int .i64 j, .int .i64 (an - (bi - ai)), U8 y0, .int .i64 y1, .string y2, .slice A3 n3 c3, .slice A4 n4 c4, .string s] := hWf ▸ hce.set_ 3 (.int .i64 (ai + rb))
      have haf := hae.keep hkf (by omega)
      have HEF := hid ((HE1.out.ext hEc).trans (((hkd.mono (G := fun q => q = w.heap.size ∨ q = W1.heap.size) fun _ _ h => .inl h).trans hke fun _ _ h => .inr h).trans hkf fun _ _ h => .inr h) fun q hq e => by have := HE1.out.size; omega)
      have x5 := hac.cell 5
      have x3 := hac.cell 3
      have g5 := hac.frozen 5
      have x5' := had.cell 5
      have y5 := hcd.cell 5
      have gy5 := hcd.frozen 5
      have y3 := hce.cell 3
      have gy3 := hce.frozen 3
      have b3c : Wc.cell? ⟨w.heap.size + 1, 3, none⟩ = some (.int .i64 bi) := (hEc.cell (lt_of_cell b3) id).trans b3
      simp only [List.getElem?_toArray, List.getElem?_cons_succ, List.getElem?_cons_zero] at x5 x3 x5' y5 y3
      obtain ⟨c0, c1, c2, c3', c4', c5, c6, c7, c8, c9, c10, c11⟩ := blk12 haf
      obtain ⟨d0, d1, d2, d3, d4, d5, d6, d7, d8, d9, d10, d11⟩ := blk12 hcf
      clear hEc hc hac hkd had hcd hke hce hae hkf hcf haf
      go_wp2
      go_ret
      rw [HR.out]
      exact text_two _ _ _ _ _ _ _ _ _ _ HEF.out rfl
end Go.Proofs.YtepbodopnndfgaaDoor
