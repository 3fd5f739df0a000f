/- text.split, shift by contract. -/
import Derived.Test.YtepbodopnndfgaaDoorTextB
set_option linter.unusedSimpArgs false
set_option linter.unusedVariables false
namespace Go.Proofs.YtepbodopnndfgaaDoor
open Go.RowKit
set_option linter.unusedVariables false

/-- A deletion behind an insertion of rb characters. -/
def splitL (ai an bi rb : Int) : List (Int × Int) := if bi - ai ≤ 0 then [(ai + rb, an)] else if an ≤ bi - ai then [(ai, an)] else [(ai, bi - ai), (ai + rb, an - (bi - ai))]

set_option maxRecDepth 100000 in
set_option maxHeartbeats 1600000 in
theorem split_any (k : UInt8) (pA : Option Addr) (pn pc : Nat) (key : ByteArray) (j : Int) (y0 : UInt8) (y1 : Int) (y2 : ByteArray) (A3 : Option Addr) (n3 c3 : Nat) (A4 : Option Addr) (n4 c4 : Nat) (s : ByteArray) (k' p' key' j' u0 u1 u2 u3 u4 : Value) (bs : ByteArray) (ai an bi bn : Int) (hai : Tm ai) (han : Tm an) (hbi : Tm bi) (hbs : bs.size ≤ 140737488355328) (w : World) :
    Calls Tryd.prog 16 #[tcV (U8 k) (.slice pA pn pc) (.string key) ai (.int .i64 j) an (U8 y0) (.int .i64 y1) (.string y2) (.slice A3 n3 c3) (.slice A4 n4 c4) (.string s), tcV k' p' key' bi j' bn u0 u1 u2 u3 u4 (.string bs)] w
      (TextIs (U8 k) (.slice pA pn pc) (.string key) (.int .i64 j) (U8 y0) (.int .i64 y1) (.string y2) (.slice A3 n3 c3) (.slice A4 n4 c4) (.string s) w (splitL ai an bi (Lib.runeCount bs : Nat))) := by
  obtain ⟨hai1, hai2⟩ := hai
  obtain ⟨han1, han2⟩ := han
  obtain ⟨hbi1, hbi2⟩ := hbi
  obtain ⟨W0, hW0⟩ : ∃ W0, (w.alloc (.cells (tcA (U8 k) (.slice pA pn pc) (.string key) ai (.int .i64 j) an (U8 y0) (.int .i64 y1) (.string y2) (.slice A3 n3 c3) (.slice A4 n4 c4) (.string s)) TCOMP)).alloc (.cells (tcA k' p' key' bi j' bn u0 u1 u2 u3 u4 (.string bs)) TCOMP) = W0 := ⟨_, rfl⟩
  have hE0 : Ext w W0 := by rw [← hW0]; exact ((Keep.refl _ _).alloc _).alloc _
  have hsz : W0.heap.size = w.heap.size + 2 := by rw [← hW0]; simp
  have ha : Blk W0 w.heap.size TCOMP (tcA (U8 k) (.slice pA pn pc) (.string key) ai (.int .i64 j) an (U8 y0) (.int .i64 y1) (.string y2) (.slice A3 n3 c3) (.slice A4 n4 c4) (.string s)) := by rw [← hW0]; exact (Blk.new w TCOMP _).alloc _
  have hb : Blk W0 (w.heap.size + 1) TCOMP (tcA k' p' key' bi j' bn u0 u1 u2 u3 u4 (.string bs)) := by
    have := Blk.new (w.alloc (.cells (tcA (U8 k) (.slice pA pn pc) (.string key) ai (.int .i64 j) an (U8 y0) (.int .i64 y1) (.string y2) (.slice A3 n3 c3) (.slice A4 n4 c4) (.string s)) TCOMP)) TCOMP (tcA k' p' key' bi j' bn u0 u1 u2 u3 u4 (.string bs))
    rw [World.size_alloc] at this
    rw [← hW0]; exact this
  have hrb : Lib.runeCount bs ≤ bs.size := Lib.runeCount_le bs
  obtain ⟨rb, hr⟩ : ∃ rb : Nat, Lib.runeCount bs = rb := ⟨_, rfl⟩
  rw [hr] at hrb ⊢
  have HRB := hid hr
  have HLEN := hid (tlen_any bs hbs)
  have HW0 := hid hW0
  have HE0 := hid hE0
  have HA := hid ha
  have HB := hid hb
  have HSZ := hid hsz
  clear hW0 hE0 ha hb hsz hr
  go_enter Tryd.func16, Tryd.ntmps16
  go_wp2_with fail
  rw [HW0.out]
  refine (HLEN.out W0).mono ?_
  rintro e W1 ⟨rfl, hE1⟩
  rw [HRB.out]
  have hA1 := HA.out.keep hE1 id
  have hB1 := HB.out.keep hE1 id
  obtain ⟨a0, a1, a2, a3, a4, a5, a6, a7, a8, a9, a10, a11⟩ := blk12 hA1
  have b3 := hB1.cell 3
  simp at b3
  have f3 := hA1.frozen 3
  have f5 := hA1.frozen 5
  have HA1 := hid hA1
  have HE1 := hid (HE0.out.ext hE1)
  have hz1 := hE1.size
  have HL1 := hid hA1.lt
  clear hA1 hB1 hE1
  by_cases h1 : bi - ai ≤ 0
  · have HR := hid (show splitL ai an bi rb = [(ai + rb, an)] from by unfold splitL; rw [if_pos h1])
    generalize splitL ai an bi rb = R at *
    go_wp2
    go_ret
    rw [HR.out]
    exact text_one _ _ _ _ _ _ _ _ _ _ (HE1.out.trans (Keep.set1 (b := w.heap.size) (Keep.refl _ _) 3 _) fun q hq e => by omega) (by simp)
  · by_cases h2 : an ≤ bi - ai
    · have HR := hid (show splitL ai an bi rb = [(ai, an)] from by unfold splitL; rw [if_neg h1, if_pos h2])
      generalize splitL ai an bi rb = R at *
      go_wp2
      go_ret
      rw [HR.out]
      exact text_one _ _ _ _ _ _ _ _ _ _ HE1.out (by simp)
    · have HR := hid (show splitL ai an bi rb = [(ai, bi - ai), (ai + rb, an - (bi - ai))] from by unfold splitL; rw [if_neg h1, if_neg h2])
      generalize splitL ai an bi rb = R at *
      have hE2 : Ext W1 (W1.alloc (.cells #[.int .u8 k.toNat, .slice pA pn pc, .string key, .int .i64 (ai + rb), .int .i64 j, .int .i64 (an - (bi - ai)), .int .u8 y0.toNat, .int .i64 y1, .string y2, .slice A3 n3 c3, .slice A4 n4 c4, .string s] TCOMP)) := (Keep.refl _ _).alloc _
      have hn2 : Blk (W1.alloc (.cells #[.int .u8 k.toNat, .slice pA pn pc, .string key, .int .i64 (ai + rb), .int .i64 j, .int .i64 (an - (bi - ai)), .int .u8 y0.toNat, .int .i64 y1, .string y2, .slice A3 n3 c3, .slice A4 n4 c4, .string s] TCOMP)) W1.heap.size TCOMP #[.int .u8 k.toNat, .slice pA pn pc, .string key, .int .i64 (ai + rb), .int .i64 j, .int .i64 (an - (bi - ai)), .int .u8 y0.toNat, .int .i64 y1, .string y2, .slice A3 n3 c3, .slice A4 n4 c4, .string s] := Blk.new _ _ _
      have hz2 : (W1.alloc (.cells #[.int .u8 k.toNat, .slice pA pn pc, .string key, .int .i64 (ai + rb), .int .i64 j, .int .i64 (an - (bi - ai)), .int .u8 y0.toNat, .int .i64 y1, .string y2, .slice A3 n3 c3, .slice A4 n4 c4, .string s] TCOMP)).heap.size = W1.heap.size + 1 := by simp
      have hA2 := HA1.out.keep hE2 id
      have d5 := hA2.cell 5
      have g5 := hA2.frozen 5
      simp only [List.getElem?_toArray, List.getElem?_cons_succ, List.getElem?_cons_zero] at d5
      have hk3 : Keep (· = w.heap.size) (W1.alloc (.cells #[.int .u8 k.toNat, .slice pA pn pc, .string key, .int .i64 (ai + rb), .int .i64 j, .int .i64 (an - (bi - ai)), .int .u8 y0.toNat, .int .i64 y1, .string y2, .slice A3 n3 c3, .slice A4 n4 c4, .string s] TCOMP)) ((W1.alloc (.cells #[.int .u8 k.toNat, .slice pA pn pc, .string key, .int .i64 (ai + rb), .int .i64 j, .int .i64 (an - (bi - ai)), .int .u8 y0.toNat, .int .i64 y1, .string y2, .slice A3 n3 c3, .slice A4 n4 c4, .string s] TCOMP)).setCell ⟨w.heap.size, 5, none⟩ (.int .i64 (bi - ai))) := (Keep.refl _ _).set1 5 _
      have hl := HL1.out
      obtain ⟨e0, e1, e2, e3, e4, e5, e6, e7, e8, e9, e10, e11⟩ := blk12 (hA2.set_ 5 (.int .i64 (bi - ai)))
      obtain ⟨h0, h1', h2', h3, h4, h5, h6, h7, h8, h9, h10, h11⟩ := blk12 (hn2.keep hk3 (by omega))
      have HK3 := hid (HE1.out.trans ((hE2.mono fun _ _ h => h.elim : Keep (· = w.heap.size) W1 _).trans hk3 fun _ _ h => h) fun q hq e => by omega)
      clear hA2 hn2 hk3 hE2 HA1
      go_wp2
      go_ret
      rw [HR.out]
      exact text_two (U8 k) (.slice pA pn pc) (.string key) (.int .i64 j) (U8 y0) (.int .i64 y1) (.string y2) (.slice A3 n3 c3) (.slice A4 n4 c4) (.string s) ((HE1.out.trans (Keep.set1 (b := w.heap.size) (Keep.refl _ _) 5 _) fun q hq e => by omega).alloc _) (by simp)
end Go.Proofs.YtepbodopnndfgaaDoor
