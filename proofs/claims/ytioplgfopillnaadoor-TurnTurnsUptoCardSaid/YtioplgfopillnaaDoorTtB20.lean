/- TextC, TextD, TextE: laid together. -/
import Derived.Test.YtioplgfopillnaaDoorTtB19
/- text.split, shift by contract. -/
set_option linter.unusedSimpArgs false
set_option linter.unusedVariables false
namespace Go.Proofs.YtioplgfopillnaaDoor
open Go.RowKit
set_option linter.unusedVariables false

/-- A deletion behind an insertion of rb characters. -/
def splitL (ai an bi rb : Int) : List (Int × Int) := if bi - ai ≤ 0 then [(ai + rb, an)] else if an ≤ bi - ai then [(ai, an)] else [(ai, bi - ai), (ai + rb, an - (bi - ai))]

set_option maxRecDepth 100000 in
set_option maxHeartbeats 1600000 in
theorem split_any (k : UInt8) (pA : Option Addr) (pn pc : Nat) (key : ByteArray) (j : Int) (y0 : UInt8) (y1 : Int) (y2 : ByteArray) (A3 : Option Addr) (n3 c3 : Nat) (A4 : Option Addr) (n4 c4 : Nat) (s : ByteArray) (k' p' key' j' u0 u1 u2 u3 u4 : Value) (bs : ByteArray) (ai an bi bn : Int) (hai : Tm ai) (han : Tm an) (hbi : Tm bi) (hbs : bs.size ≤ 140737488355328) (w : World) :
    Calls Tryd.prog 86 #[tcV (U8 k) (.slice pA pn pc) (.string key) ai (.int .i64 j) an (U8 y0) (.int .i64 y1) (.string y2) (.slice A3 n3 c3) (.slice A4 n4 c4) (.string s), tcV k' p' key' bi j' bn u0 u1 u2 u3 u4 (.string bs)] w
      (TextIs (U8 k) (.slice pA pn pc) (.string key) (.int .i64 j) (U8 y0) (.int .i64 y1) (.string y2) (.slice A3 n3 c3) (.slice A4 n4 c4) (.string s) w (splitL ai an bi (Lib.runeCount bs : Nat))) := by
  obtain ⟨hai1, hai2⟩ := hai
  obtain ⟨han1, han2⟩ := han
  obtain ⟨hbi1, hbi2⟩ := hbi
  obtain ⟨W0, hW0⟩ : ∃ W0, (w.alloc (.cells (tcA (U8 k) (.slice pA pn pc) (.string key) ai (.int .i64 j) an (U8 y0) (.int .i64 y1) (.string y2) (.slice A3 n3 c3) (.slice A4 n4 c4) (.string s)) TCOMP)).alloc (.cells (tcA k' p' key' bi j' bn u0 u1 u2 u3 u4 (.string bs)) TCOMP) = W0 := ⟨_, rfl⟩
  have hE0 : Ext w W0 := by rw [← hW0]; exact ((Keep.refl _ _).alloc _).alloc _
  have hsz : W0.heap.size = w.heap.size + 2 := by rw [← hW0]; simp
  have ha : Blk W0 w.heap.size TCOMP (tcA (U8 k) (.slice pA pn pc) (.string key) ai (.int .i64 j) an (U8 y0) (.int .i64 y1) (.string y2) (.slice A3 n3 c3) (.slice A4 n4 c4) (.string s)) := by rw [← hW0]; exact (Blk.new w TCOMP _).alloc _
  have hb : Blk W0 (w.heap.size + 1) TCOMP (tcA k' p' key' bi j' bn u0 u1 u2 u3 u4 (.string bs)) := by
    have := Blk.new (w.alloc (.cells (tcA (U8 k) (.slice pA pn pc) (.string key) ai (.int .i64 j) an (U8 y0) (.int .i64 y1) (.string y2) (.slice A3 n3 c3) (.slice A4 n4 c4) (.string s)) TCOMP)) TCOMP (tcA k' p' key' bi j' bn u0 u1 u2 u3 u4 (.string bs))
    rw [World.size_alloc] at this
    rw [← hW0]; exact this
  have hrb : Lib.runeCount bs ≤ bs.size := Lib.runeCount_le bs
  obtain ⟨rb, hr⟩ : ∃ rb : Nat, Lib.runeCount bs = rb := ⟨_, rfl⟩
  rw [hr] at hrb ⊢
  have HRB := hid hr
  have HLEN := hid (tlen_any bs hbs)
  have HW0 := hid hW0
  have HE0 := hid hE0
  have HA := hid ha
  have HB := hid hb
  have HSZ := hid hsz
  clear hW0 hE0 ha hb hsz hr
  go_enter Tryd.func86, Tryd.ntmps86
  go_wp2_with fail
  rw [HW0.out]
  refine (HLEN.out W0).mono ?_
  rintro e W1 ⟨rfl, hE1⟩
  rw [HRB.out]
  have hA1 := HA.out.keep hE1 id
  have hB1 := HB.out.keep hE1 id
  obtain ⟨a0, a1, a2, a3, a4, a5, a6, a7, a8, a9, a10, a11⟩ := blk12 hA1
  have b3 := hB1.cell 3
  simp at b3
  have f3 := hA1.frozen 3
  have f5 := hA1.frozen 5
  have HA1 := hid hA1
  have HE1 := hid (HE0.out.ext hE1)
  have hz1 := hE1.size
  have HL1 := hid hA1.lt
  clear hA1 hB1 hE1
  by_cases h1 : bi - ai ≤ 0
  · have HR := hid (show splitL ai an bi rb = [(ai + rb, an)] from by unfold splitL; rw [if_pos h1])
    generalize splitL ai an bi rb = R at *
    go_wp2
    go_ret
    rw [HR.out]
    exact text_one _ _ _ _ _ _ _ _ _ _ (HE1.out.trans (Keep.set1 (b := w.heap.size) (Keep.refl _ _) 3 _) fun q hq e => by omega) (by simp)
  · by_cases h2 : an ≤ bi - ai
    · have HR := hid (show splitL ai an bi rb = [(ai, an)] from by unfold splitL; rw [if_neg h1, if_pos h2])
      generalize splitL ai an bi rb = R at *
      go_wp2
      go_ret
      rw [HR.out]
      exact text_one _ _ _ _ _ _ _ _ _ _ HE1.out (by simp)
    · have HR := hid (show splitL ai an bi rb = [(ai, bi - ai), (ai + rb, an - (bi - ai))] from by unfold splitL; rw [if_neg h1, if_neg h2])
      generalize splitL ai an bi rb = R at *
      have hE2 : Ext W1 (W1.alloc (.cells #[.int .u8 k.toNat, .slice pA pn pc, .string key, .int .i64 (ai + rb), .int .i64 j, .int .i64 (an - (bi - ai)), .int .u8 y0.toNat, .int .i64 y1, .string y2, .slice A3 n3 c3, .slice A4 n4 c4, .string s] TCOMP)) := (Keep.refl _ _).alloc _
      have hn2 : Blk (W1.alloc (.cells #[.int .u8 k.toNat, .slice pA pn pc, .string key, .int .i64 (ai + rb), .int .i64 j, .int .i64 (an - (bi - ai)), .int .u8 y0.toNat, .int .i64 y1, .string y2, .slice A3 n3 c3, .slice A4 n4 c4, .string s] TCOMP)) W1.heap.size TCOMP #[.int .u8 k.toNat, .slice pA pn pc, .string key, .int .i64 (ai + rb), .int .i64 j, .int .i64 (an - (bi - ai)), .int .u8 y0.toNat, .int .i64 y1, .string y2, .slice A3 n3 c3, .slice A4 n4 c4, .string s] := Blk.new _ _ _
      have hz2 : (W1.alloc (.cells #[.int .u8 k.toNat, .slice pA pn pc, .string key, .int .i64 (ai + rb), .int .i64 j, .int .i64 (an - (bi - ai)), .int .u8 y0.toNat, .int .i64 y1, .string y2, .slice A3 n3 c3, .slice A4 n4 c4, .string s] TCOMP)).heap.size = W1.heap.size + 1 := by simp
      have hA2 := HA1.out.keep hE2 id
      have d5 := hA2.cell 5
      have g5 := hA2.frozen 5
      simp only [List.getElem?_toArray, List.getElem?_cons_succ, List.getElem?_cons_zero] at d5
      have hk3 : Keep (· = w.heap.size) (W1.alloc (.cells #[.int .u8 k.toNat, .slice pA pn pc, .string key, .int .i64 (ai + rb), .int .i64 j, .int .i64 (an - (bi - ai)), .int .u8 y0.toNat, .int .i64 y1, .string y2, .slice A3 n3 c3, .slice A4 n4 c4, .string s] TCOMP)) ((W1.alloc (.cells #[.int .u8 k.toNat, .slice pA pn pc, .string key, .int .i64 (ai + rb), .int .i64 j, .int .i64 (an - (bi - ai)), .int .u8 y0.toNat, .int .i64 y1, .string y2, .slice A3 n3 c3, .slice A4 n4 c4, .string s] TCOMP)).setCell ⟨w.heap.size, 5, none⟩ (.int .i64 (bi - ai))) := (Keep.refl _ _).set1 5 _
      have hl := HL1.out
      obtain ⟨e0, e1, e2, e3, e4, e5, e6, e7, e8, e9, e10, e11⟩ := blk12 (hA2.set_ 5 (.int .i64 (bi - ai)))
      obtain ⟨h0, h1', h2', h3, h4, h5, h6, h7, h8, h9, h10, h11⟩ := blk12 (hn2.keep hk3 (by omega))
      have HK3 := hid (HE1.out.trans ((hE2.mono fun _ _ h => h.elim : Keep (· = w.heap.size) W1 _).trans hk3 fun _ _ h => h) fun q hq e => by omega)
      clear hA2 hn2 hk3 hE2 HA1
      go_wp2
      go_ret
      rw [HR.out]
      exact text_two (U8 k) (.slice pA pn pc) (.string key) (.int .i64 j) (U8 y0) (.int .i64 y1) (.string y2) (.slice A3 n3 c3) (.slice A4 n4 c4) (.string s) ((HE1.out.trans (Keep.set1 (b := w.heap.size) (Keep.refl _ _) 5 _) fun q hq e => by omega).alloc _) (by simp)
end Go.Proofs.YtioplgfopillnaaDoor

/- text.shift by contract. -/
set_option linter.unusedSimpArgs false
set_option linter.unusedVariables false
namespace Go.Proofs.YtioplgfopillnaaDoor
open Go.RowKit
set_option linter.unusedVariables false

/-- A component's cells, written one after the other. -/
def put12 (w : World) (g : Nat) (x0 x1 x2 x3 x4 x5 x6 x7 x8 x9 x10 x11 : Value) : World :=
  (((((((((((w.setCell ⟨g, 0, none⟩ x0).setCell ⟨g, 1, none⟩ x1).setCell ⟨g, 2, none⟩ x2).setCell ⟨g, 3, none⟩ x3).setCell ⟨g, 4, none⟩ x4).setCell ⟨g, 5, none⟩ x5).setCell ⟨g, 6, none⟩ x6).setCell ⟨g, 7, none⟩ x7).setCell ⟨g, 8, none⟩ x8).setCell ⟨g, 9, none⟩ x9).setCell ⟨g, 10, none⟩ x10).setCell ⟨g, 11, none⟩ x11
theorem put12_keep (w : World) (g : Nat) (x0 x1 x2 x3 x4 x5 x6 x7 x8 x9 x10 x11 : Value) : Keep (· = g) w (put12 w g x0 x1 x2 x3 x4 x5 x6 x7 x8 x9 x10 x11) :=
  ((((((((((((Keep.refl _ _).set1 0 _).set1 1 _).set1 2 _).set1 3 _).set1 4 _).set1 5 _).set1 6 _).set1 7 _).set1 8 _).set1 9 _).set1 10 _).set1 11 _
theorem put12_blk {w : World} {g : Nat} {T : TypeId} {z0 z1 z2 z3 z4 z5 z6 z7 z8 z9 z10 z11 : Value} (h : Blk w g T #[z0, z1, z2, z3, z4, z5, z6, z7, z8, z9, z10, z11]) (x0 x1 x2 x3 x4 x5 x6 x7 x8 x9 x10 x11 : Value) :
    Blk (put12 w g x0 x1 x2 x3 x4 x5 x6 x7 x8 x9 x10 x11) g T #[x0, x1, x2, x3, x4, x5, x6, x7, x8, x9, x10, x11] := by
  have h0 : Blk _ g T #[x0, z1, z2, z3, z4, z5, z6, z7, z8, z9, z10, z11] := h.set_ 0 x0
  have h1 : Blk _ g T #[x0, x1, z2, z3, z4, z5, z6, z7, z8, z9, z10, z11] := h0.set_ 1 x1
  have h2 : Blk _ g T #[x0, x1, x2, z3, z4, z5, z6, z7, z8, z9, z10, z11] := h1.set_ 2 x2
  have h3 : Blk _ g T #[x0, x1, x2, x3, z4, z5, z6, z7, z8, z9, z10, z11] := h2.set_ 3 x3
  have h4 : Blk _ g T #[x0, x1, x2, x3, x4, z5, z6, z7, z8, z9, z10, z11] := h3.set_ 4 x4
  have h5 : Blk _ g T #[x0, x1, x2, x3, x4, x5, z6, z7, z8, z9, z10, z11] := h4.set_ 5 x5
  have h6 : Blk _ g T #[x0, x1, x2, x3, x4, x5, x6, z7, z8, z9, z10, z11] := h5.set_ 6 x6
  have h7 : Blk _ g T #[x0, x1, x2, x3, x4, x5, x6, x7, z8, z9, z10, z11] := h6.set_ 7 x7
  have h8 : Blk _ g T #[x0, x1, x2, x3, x4, x5, x6, x7, x8, z9, z10, z11] := h7.set_ 8 x8
  have h9 : Blk _ g T #[x0, x1, x2, x3, x4, x5, x6, x7, x8, x9, z10, z11] := h8.set_ 9 x9
  have h10 : Blk _ g T #[x0, x1, x2, x3, x4, x5, x6, x7, x8, x9, x10, z11] := h9.set_ 10 x10
  have h11 : Blk _ g T #[x0, x1, x2, x3, x4, x5, x6, x7, x8, x9, x10, x11] := h10.set_ 11 x11
  exact h11

/-- An insertion behind another component. -/
def shiftL (ai : Int) (bk : UInt8) (bi bn rb : Int) (left : Bool) : Int :=
  if bk = 8 then (if bi < ai ∨ (bi = ai ∧ left = false) then ai + rb else ai)
  else if bi + bn ≤ ai then ai - bn else if bi < ai then bi else ai
set_option maxRecDepth 100000 in
set_option maxHeartbeats 6400000 in
theorem shift_del (k : UInt8) (pA : Option Addr) (pn pc : Nat) (key : ByteArray) (j : Int) (y0 : UInt8) (y1 : Int) (y2 : ByteArray) (A3 : Option Addr) (n3 c3 : Nat) (A4 : Option Addr) (n4 c4 : Nat) (s : ByteArray) (bk : UInt8) (p' key' j' u0 u1 u2 u3 u4 : Value) (bs : ByteArray) (ai an bi bn : Int) (left : Bool) (hai : Tm ai) (hbi : Tm bi) (hbn : Tm bn) (hbs : bs.size ≤ 140737488355328) (hk : ¬ bk = 8) (w : World) :
    Calls Tryd.prog 85 #[tcV (U8 k) (.slice pA pn pc) (.string key) ai (.int .i64 j) an (U8 y0) (.int .i64 y1) (.string y2) (.slice A3 n3 c3) (.slice A4 n4 c4) (.string s), tcV (U8 bk) p' key' bi j' bn u0 u1 u2 u3 u4 (.string bs), .bool left] w
      fun e w' => e = .returned (tcV (U8 k) (.slice pA pn pc) (.string key) (shiftL ai bk bi bn (Lib.runeCount bs : Nat) left) (.int .i64 j) an (U8 y0) (.int .i64 y1) (.string y2) (.slice A3 n3 c3) (.slice A4 n4 c4) (.string s)) ∧ Ext w w' := by
  obtain ⟨hai1, hai2⟩ := hai
  obtain ⟨hbn1, hbn2⟩ := hbn
  obtain ⟨hbi1, hbi2⟩ := hbi
  obtain ⟨Wb, hWb⟩ : ∃ Wb, (w.alloc (.cells (tcA (U8 k) (.slice pA pn pc) (.string key) ai (.int .i64 j) an (U8 y0) (.int .i64 y1) (.string y2) (.slice A3 n3 c3) (.slice A4 n4 c4) (.string s)) TCOMP)).alloc (.cells (tcA (U8 bk) p' key' bi j' bn u0 u1 u2 u3 u4 (.string bs)) TCOMP) = Wb := ⟨_, rfl⟩
  have hzb : Wb.heap.size = w.heap.size + 2 := by rw [← hWb]; simp
  obtain ⟨W0, hW0⟩ : ∃ W0, Wb.alloc (.cells #[.int .u8 0, .slice none 0 0, .string ⟨#[]⟩, .int .i64 0, .int .i64 0, .int .i64 0, .int .u8 0, .int .i64 0, .string ⟨#[]⟩, .slice none 0 0, .slice none 0 0, .string ⟨#[]⟩] TCOMP) = W0 := ⟨_, rfl⟩
  have hE0 : Ext w W0 := by rw [← hW0, ← hWb]; exact (((Keep.refl _ _).alloc _).alloc _).alloc _
  have hsz : W0.heap.size = w.heap.size + 3 := by rw [← hW0]; simp [hzb]
  have ha : Blk W0 w.heap.size TCOMP (tcA (U8 k) (.slice pA pn pc) (.string key) ai (.int .i64 j) an (U8 y0) (.int .i64 y1) (.string y2) (.slice A3 n3 c3) (.slice A4 n4 c4) (.string s)) := by rw [← hW0, ← hWb]; exact ((Blk.new w TCOMP _).alloc _).alloc _
  have hb : Blk W0 (w.heap.size + 1) TCOMP (tcA (U8 bk) p' key' bi j' bn u0 u1 u2 u3 u4 (.string bs)) := by
    have := (Blk.new (w.alloc (.cells (tcA (U8 k) (.slice pA pn pc) (.string key) ai (.int .i64 j) an (U8 y0) (.int .i64 y1) (.string y2) (.slice A3 n3 c3) (.slice A4 n4 c4) (.string s)) TCOMP)) TCOMP (tcA (U8 bk) p' key' bi j' bn u0 u1 u2 u3 u4 (.string bs))).alloc (.cells #[.int .u8 0, .slice none 0 0, .string ⟨#[]⟩, .int .i64 0, .int .i64 0, .int .i64 0, .int .u8 0, .int .i64 0, .string ⟨#[]⟩, .slice none 0 0, .slice none 0 0, .string ⟨#[]⟩] TCOMP)
    rw [World.size_alloc] at this
    rw [← hW0, ← hWb]; exact this
  have hc : Blk W0 (w.heap.size + 2) TCOMP #[.int .u8 0, .slice none 0 0, .string ⟨#[]⟩, .int .i64 0, .int .i64 0, .int .i64 0, .int .u8 0, .int .i64 0, .string ⟨#[]⟩, .slice none 0 0, .slice none 0 0, .string ⟨#[]⟩] := by rw [← hW0, ← hzb]; exact Blk.new _ _ _
  have hrb : Lib.runeCount bs ≤ bs.size := Lib.runeCount_le bs
  obtain ⟨rb, hr⟩ : ∃ rb : Nat, Lib.runeCount bs = rb := ⟨_, rfl⟩
  rw [hr] at hrb ⊢
  have HRB := hid hr
  have HLEN := hid (tlen_any bs hbs)
  have HW0 := hid (show ((w.alloc (.cells (tcA (U8 k) (.slice pA pn pc) (.string key) ai (.int .i64 j) an (U8 y0) (.int .i64 y1) (.string y2) (.slice A3 n3 c3) (.slice A4 n4 c4) (.string s)) TCOMP)).alloc (.cells (tcA (U8 bk) p' key' bi j' bn u0 u1 u2 u3 u4 (.string bs)) TCOMP)).alloc (.cells #[.int .u8 0, .slice none 0 0, .string ⟨#[]⟩, .int .i64 0, .int .i64 0, .int .i64 0, .int .u8 0, .int .i64 0, .string ⟨#[]⟩, .slice none 0 0, .slice none 0 0, .string ⟨#[]⟩] TCOMP) = W0 from by rw [hWb, hW0])
  have HE0 := hid hE0
  have HA := hid ha
  have HB := hid hb
  have HC := hid hc
  have HSZ := hid hsz
  obtain ⟨sh, hsh⟩ : ∃ sh, shiftL ai bk bi bn rb left = sh := ⟨_, rfl⟩
  rw [hsh]
  have HSH := hid hsh
  clear hW0 hE0 ha hb hc hsz hr hWb hzb hsh
  have hk8 : ((bk.toNat : Int) == 8) = false := by
    rcases tkind_cases bk with rfl | rfl | ⟨_, h, _⟩
    · exact absurd rfl hk
    · rfl
    · exact h
  have HS := hid (show sh = if bi + bn ≤ ai then ai - bn else if bi < ai then bi else ai from by rw [← HSH.out]; unfold shiftL; rw [if_neg hk])
  clear HLEN HSH hk
  go_enter Tryd.func85, Tryd.ntmps85
  go_wp2_with fail
  rw [HW0.out]
  refine (tof_any _ _ _ _ _ _ _ _ _ _ _ _ (by omega) (by omega) W0).mono ?_
  rintro e W1 ⟨rfl, hE1⟩
  obtain ⟨W2, hW2⟩ : ∃ W2, W1.alloc (.cells #[.int .i64 bi, .int .i64 (bi + bn)] TSPAN) = W2 := ⟨_, rfl⟩
  have hE2 : Ext W0 W2 := by rw [← hW2]; exact hE1.alloc _
  have hY : Blk W2 W1.heap.size TSPAN #[.int .i64 bi, .int .i64 (bi + bn)] := by rw [← hW2]; exact Blk.new _ _ _
  have HA2 := hid (HA.out.keep hE2 id)
  have HB2 := hid (HB.out.keep hE2 id)
  have HC2 := hid (HC.out.keep hE2 id)
  have HE2 := hid (HE0.out.ext hE2)
  have z1 := hY.cell 1
  simp at z1
  have a3 := HA2.out.cell 3
  have b3 := HB2.out.cell 3
  have b5 := HB2.out.cell 5
  simp only [List.getElem?_toArray, List.getElem?_cons_succ, List.getElem?_cons_zero] at a3 b3 b5
  have f3 := HA2.out.frozen 3
  clear hE1 hE2 hY
  by_cases hc1 : bi + bn ≤ ai
  · have HS2 := hid (show sh = ai - bn from by rw [HS.out, if_pos hc1])
    obtain ⟨W3, hW3⟩ : ∃ W3, W2.setCell ⟨w.heap.size, 3, none⟩ (.int .i64 (ai - bn)) = W3 := ⟨_, rfl⟩
    have hkA : Keep (· = w.heap.size) W2 W3 := by rw [← hW3]; exact (Keep.refl _ _).set1 3 _
    have HA3 := hid (show Blk W3 w.heap.size TCOMP _ from hW3 ▸ HA2.out.set_ 3 (.int .i64 (ai - bn)))
    have HC3 := hid (HC2.out.keep hkA (by omega))
    have HE3 := hid (HE2.out.trans hkA fun q hq e => by omega)
    clear hkA
    obtain ⟨m0, m1, m2, m3, m4, m5, m6, m7, m8, m9, m10, m11⟩ := blk12 HA3.out
    obtain ⟨c0, c1, c2, c3', c4', c5, c6, c7, c8, c9, c10, c11⟩ := blk12 HC3.out
    have g0 := HC3.out.frozen 0
    have g1 := HC3.out.frozen 1
    have g2 := HC3.out.frozen 2
    have g3 := HC3.out.frozen 3
    have g4 := HC3.out.frozen 4
    have g5 := HC3.out.frozen 5
    have g6 := HC3.out.frozen 6
    have g7 := HC3.out.frozen 7
    have g8 := HC3.out.frozen 8
    have g9 := HC3.out.frozen 9
    have g10 := HC3.out.frozen 10
    have g11 := HC3.out.frozen 11
    clear HS HRB HB HA HC HSZ HE0 HA2 HB2 HC2 HE2 HA3 HW0
    go_wp2
    have HR := hid (put12_blk HC3.out (U8 k) (.slice pA pn pc) (.string key) (.int .i64 (ai - bn)) (.int .i64 j) (.int .i64 an) (U8 y0) (.int .i64 y1) (.string y2) (.slice A3 n3 c3) (.slice A4 n4 c4) (.string s))
    have HEF := hid (HE3.out.trans (put12_keep W3 (w.heap.size + 2) (U8 k) (.slice pA pn pc) (.string key) (.int .i64 (ai - bn)) (.int .i64 j) (.int .i64 an) (U8 y0) (.int .i64 y1) (.string y2) (.slice A3 n3 c3) (.slice A4 n4 c4) (.string s)) fun q hq e => by omega)
    change bodyPost _ _ _ _ _ (put12 W3 (w.heap.size + 2) (U8 k) (.slice pA pn pc) (.string key) (.int .i64 (ai - bn)) (.int .i64 j) (.int .i64 an) (U8 y0) (.int .i64 y1) (.string y2) (.slice A3 n3 c3) (.slice A4 n4 c4) (.string s))
    obtain ⟨r0, r1, r2, r3, r4, r5, r6, r7, r8, r9, r10, r11⟩ := blk12 HR.out
    generalize put12 W3 (w.heap.size + 2) (U8 k) (.slice pA pn pc) (.string key) (.int .i64 (ai - bn)) (.int .i64 j) (.int .i64 an) (U8 y0) (.int .i64 y1) (.string y2) (.slice A3 n3 c3) (.slice A4 n4 c4) (.string s) = WF at *
    refine bodyPost_ret (v := tcV (U8 k) (.slice pA pn pc) (.string key) (ai - bn) (.int .i64 j) an (U8 y0) (.int .i64 y1) (.string y2) (.slice A3 n3 c3) (.slice A4 n4 c4) (.string s)) (by simp [results, Tryd.results85, go_sem, r0, r1, r2, r3, r4, r5, r6, r7, r8, r9, r10, r11]) rfl ⟨by rw [HS2.out], HEF.out⟩
  · by_cases hc2 : bi < ai
    · have HS2 := hid (show sh = bi from by rw [HS.out, if_neg hc1, if_pos hc2])
      obtain ⟨W3, hW3⟩ : ∃ W3, W2.setCell ⟨w.heap.size, 3, none⟩ (.int .i64 (bi)) = W3 := ⟨_, rfl⟩
      have hkA : Keep (· = w.heap.size) W2 W3 := by rw [← hW3]; exact (Keep.refl _ _).set1 3 _
      have HA3 := hid (show Blk W3 w.heap.size TCOMP _ from hW3 ▸ HA2.out.set_ 3 (.int .i64 (bi)))
      have HC3 := hid (HC2.out.keep hkA (by omega))
      have HE3 := hid (HE2.out.trans hkA fun q hq e => by omega)
      clear hkA
      obtain ⟨m0, m1, m2, m3, m4, m5, m6, m7, m8, m9, m10, m11⟩ := blk12 HA3.out
      obtain ⟨c0, c1, c2, c3', c4', c5, c6, c7, c8, c9, c10, c11⟩ := blk12 HC3.out
      have g0 := HC3.out.frozen 0
      have g1 := HC3.out.frozen 1
      have g2 := HC3.out.frozen 2
      have g3 := HC3.out.frozen 3
      have g4 := HC3.out.frozen 4
      have g5 := HC3.out.frozen 5
      have g6 := HC3.out.frozen 6
      have g7 := HC3.out.frozen 7
      have g8 := HC3.out.frozen 8
      have g9 := HC3.out.frozen 9
      have g10 := HC3.out.frozen 10
      have g11 := HC3.out.frozen 11
      clear HS HRB HB HA HC HSZ HE0 HA2 HB2 HC2 HE2 HA3 HW0
      go_wp2
      have HR := hid (put12_blk HC3.out (U8 k) (.slice pA pn pc) (.string key) (.int .i64 (bi)) (.int .i64 j) (.int .i64 an) (U8 y0) (.int .i64 y1) (.string y2) (.slice A3 n3 c3) (.slice A4 n4 c4) (.string s))
      have HEF := hid (HE3.out.trans (put12_keep W3 (w.heap.size + 2) (U8 k) (.slice pA pn pc) (.string key) (.int .i64 (bi)) (.int .i64 j) (.int .i64 an) (U8 y0) (.int .i64 y1) (.string y2) (.slice A3 n3 c3) (.slice A4 n4 c4) (.string s)) fun q hq e => by omega)
      change bodyPost _ _ _ _ _ (put12 W3 (w.heap.size + 2) (U8 k) (.slice pA pn pc) (.string key) (.int .i64 (bi)) (.int .i64 j) (.int .i64 an) (U8 y0) (.int .i64 y1) (.string y2) (.slice A3 n3 c3) (.slice A4 n4 c4) (.string s))
      obtain ⟨r0, r1, r2, r3, r4, r5, r6, r7, r8, r9, r10, r11⟩ := blk12 HR.out
      generalize put12 W3 (w.heap.size + 2) (U8 k) (.slice pA pn pc) (.string key) (.int .i64 (bi)) (.int .i64 j) (.int .i64 an) (U8 y0) (.int .i64 y1) (.string y2) (.slice A3 n3 c3) (.slice A4 n4 c4) (.string s) = WF at *
      refine bodyPost_ret (v := tcV (U8 k) (.slice pA pn pc) (.string key) (bi) (.int .i64 j) an (U8 y0) (.int .i64 y1) (.string y2) (.slice A3 n3 c3) (.slice A4 n4 c4) (.string s)) (by simp [results, Tryd.results85, go_sem, r0, r1, r2, r3, r4, r5, r6, r7, r8, r9, r10, r11]) rfl ⟨by rw [HS2.out], HEF.out⟩
    · have HS2 := hid (show sh = ai from by rw [HS.out, if_neg hc1, if_neg hc2])
      have HA3 := HA2
      have HC3 := HC2
      have HE3 := HE2
      obtain ⟨m0, m1, m2, m3, m4, m5, m6, m7, m8, m9, m10, m11⟩ := blk12 HA3.out
      obtain ⟨c0, c1, c2, c3', c4', c5, c6, c7, c8, c9, c10, c11⟩ := blk12 HC3.out
      have g0 := HC3.out.frozen 0
      have g1 := HC3.out.frozen 1
      have g2 := HC3.out.frozen 2
      have g3 := HC3.out.frozen 3
      have g4 := HC3.out.frozen 4
      have g5 := HC3.out.frozen 5
      have g6 := HC3.out.frozen 6
      have g7 := HC3.out.frozen 7
      have g8 := HC3.out.frozen 8
      have g9 := HC3.out.frozen 9
      have g10 := HC3.out.frozen 10
      have g11 := HC3.out.frozen 11
      clear HS HRB HB HA HC HSZ HE0 HA2 HB2 HC2 HE2 HA3 HW0
      go_wp2
      have HR := hid (put12_blk HC3.out (U8 k) (.slice pA pn pc) (.string key) (.int .i64 (ai)) (.int .i64 j) (.int .i64 an) (U8 y0) (.int .i64 y1) (.string y2) (.slice A3 n3 c3) (.slice A4 n4 c4) (.string s))
      have HEF := hid (HE3.out.trans (put12_keep W2 (w.heap.size + 2) (U8 k) (.slice pA pn pc) (.string key) (.int .i64 (ai)) (.int .i64 j) (.int .i64 an) (U8 y0) (.int .i64 y1) (.string y2) (.slice A3 n3 c3) (.slice A4 n4 c4) (.string s)) fun q hq e => by omega)
      change bodyPost _ _ _ _ _ (put12 W2 (w.heap.size + 2) (U8 k) (.slice pA pn pc) (.string key) (.int .i64 (ai)) (.int .i64 j) (.int .i64 an) (U8 y0) (.int .i64 y1) (.string y2) (.slice A3 n3 c3) (.slice A4 n4 c4) (.string s))
      obtain ⟨r0, r1, r2, r3, r4, r5, r6, r7, r8, r9, r10, r11⟩ := blk12 HR.out
      generalize put12 W2 (w.heap.size + 2) (U8 k) (.slice pA pn pc) (.string key) (.int .i64 (ai)) (.int .i64 j) (.int .i64 an) (U8 y0) (.int .i64 y1) (.string y2) (.slice A3 n3 c3) (.slice A4 n4 c4) (.string s) = WF at *
      refine bodyPost_ret (v := tcV (U8 k) (.slice pA pn pc) (.string key) (ai) (.int .i64 j) an (U8 y0) (.int .i64 y1) (.string y2) (.slice A3 n3 c3) (.slice A4 n4 c4) (.string s)) (by simp [results, Tryd.results85, go_sem, r0, r1, r2, r3, r4, r5, r6, r7, r8, r9, r10, r11]) rfl ⟨by rw [HS2.out], HEF.out⟩
end Go.Proofs.YtioplgfopillnaaDoor

/- text.shift by contract. -/
set_option linter.unusedSimpArgs false
set_option linter.unusedVariables false
namespace Go.Proofs.YtioplgfopillnaaDoor
open Go.RowKit
set_option linter.unusedVariables false

set_option maxRecDepth 100000 in
set_option maxHeartbeats 6400000 in
theorem shift_any (k : UInt8) (pA : Option Addr) (pn pc : Nat) (key : ByteArray) (j : Int) (y0 : UInt8) (y1 : Int) (y2 : ByteArray) (A3 : Option Addr) (n3 c3 : Nat) (A4 : Option Addr) (n4 c4 : Nat) (s : ByteArray) (bk : UInt8) (p' key' j' u0 u1 u2 u3 u4 : Value) (bs : ByteArray) (ai an bi bn : Int) (left : Bool) (hai : Tm ai) (hbi : Tm bi) (hbn : Tm bn) (hbs : bs.size ≤ 140737488355328) (w : World) :
    Calls Tryd.prog 85 #[tcV (U8 k) (.slice pA pn pc) (.string key) ai (.int .i64 j) an (U8 y0) (.int .i64 y1) (.string y2) (.slice A3 n3 c3) (.slice A4 n4 c4) (.string s), tcV (U8 bk) p' key' bi j' bn u0 u1 u2 u3 u4 (.string bs), .bool left] w
      fun e w' => e = .returned (tcV (U8 k) (.slice pA pn pc) (.string key) (shiftL ai bk bi bn (Lib.runeCount bs : Nat) left) (.int .i64 j) an (U8 y0) (.int .i64 y1) (.string y2) (.slice A3 n3 c3) (.slice A4 n4 c4) (.string s)) ∧ Ext w w' := by
  obtain ⟨hai1, hai2⟩ := hai
  obtain ⟨hbn1, hbn2⟩ := hbn
  obtain ⟨hbi1, hbi2⟩ := hbi
  obtain ⟨Wb, hWb⟩ : ∃ Wb, (w.alloc (.cells (tcA (U8 k) (.slice pA pn pc) (.string key) ai (.int .i64 j) an (U8 y0) (.int .i64 y1) (.string y2) (.slice A3 n3 c3) (.slice A4 n4 c4) (.string s)) TCOMP)).alloc (.cells (tcA (U8 bk) p' key' bi j' bn u0 u1 u2 u3 u4 (.string bs)) TCOMP) = Wb := ⟨_, rfl⟩
  have hzb : Wb.heap.size = w.heap.size + 2 := by rw [← hWb]; simp
  obtain ⟨W0, hW0⟩ : ∃ W0, Wb.alloc (.cells #[.int .u8 0, .slice none 0 0, .string ⟨#[]⟩, .int .i64 0, .int .i64 0, .int .i64 0, .int .u8 0, .int .i64 0, .string ⟨#[]⟩, .slice none 0 0, .slice none 0 0, .string ⟨#[]⟩] TCOMP) = W0 := ⟨_, rfl⟩
  have hE0 : Ext w W0 := by rw [← hW0, ← hWb]; exact (((Keep.refl _ _).alloc _).alloc _).alloc _
  have hsz : W0.heap.size = w.heap.size + 3 := by rw [← hW0]; simp [hzb]
  have ha : Blk W0 w.heap.size TCOMP (tcA (U8 k) (.slice pA pn pc) (.string key) ai (.int .i64 j) an (U8 y0) (.int .i64 y1) (.string y2) (.slice A3 n3 c3) (.slice A4 n4 c4) (.string s)) := by rw [← hW0, ← hWb]; exact ((Blk.new w TCOMP _).alloc _).alloc _
  have hb : Blk W0 (w.heap.size + 1) TCOMP (tcA (U8 bk) p' key' bi j' bn u0 u1 u2 u3 u4 (.string bs)) := by
    have := (Blk.new (w.alloc (.cells (tcA (U8 k) (.slice pA pn pc) (.string key) ai (.int .i64 j) an (U8 y0) (.int .i64 y1) (.string y2) (.slice A3 n3 c3) (.slice A4 n4 c4) (.string s)) TCOMP)) TCOMP (tcA (U8 bk) p' key' bi j' bn u0 u1 u2 u3 u4 (.string bs))).alloc (.cells #[.int .u8 0, .slice none 0 0, .string ⟨#[]⟩, .int .i64 0, .int .i64 0, .int .i64 0, .int .u8 0, .int .i64 0, .string ⟨#[]⟩, .slice none 0 0, .slice none 0 0, .string ⟨#[]⟩] TCOMP)
    rw [World.size_alloc] at this
    rw [← hW0, ← hWb]; exact this
  have hc : Blk W0 (w.heap.size + 2) TCOMP #[.int .u8 0, .slice none 0 0, .string ⟨#[]⟩, .int .i64 0, .int .i64 0, .int .i64 0, .int .u8 0, .int .i64 0, .string ⟨#[]⟩, .slice none 0 0, .slice none 0 0, .string ⟨#[]⟩] := by rw [← hW0, ← hzb]; exact Blk.new _ _ _
  have hrb : Lib.runeCount bs ≤ bs.size := Lib.runeCount_le bs
  obtain ⟨rb, hr⟩ : ∃ rb : Nat, Lib.runeCount bs = rb := ⟨_, rfl⟩
  rw [hr] at hrb ⊢
  have HRB := hid hr
  have HLEN := hid (tlen_any bs hbs)
  have HW0 := hid (show ((w.alloc (.cells (tcA (U8 k) (.slice pA pn pc) (.string key) ai (.int .i64 j) an (U8 y0) (.int .i64 y1) (.string y2) (.slice A3 n3 c3) (.slice A4 n4 c4) (.string s)) TCOMP)).alloc (.cells (tcA (U8 bk) p' key' bi j' bn u0 u1 u2 u3 u4 (.string bs)) TCOMP)).alloc (.cells #[.int .u8 0, .slice none 0 0, .string ⟨#[]⟩, .int .i64 0, .int .i64 0, .int .i64 0, .int .u8 0, .int .i64 0, .string ⟨#[]⟩, .slice none 0 0, .slice none 0 0, .string ⟨#[]⟩] TCOMP) = W0 from by rw [hWb, hW0])
  have HE0 := hid hE0
  have HA := hid ha
  have HB := hid hb
  have HC := hid hc
  have HSZ := hid hsz
  obtain ⟨sh, hsh⟩ : ∃ sh, shiftL ai bk bi bn rb left = sh := ⟨_, rfl⟩
  rw [hsh]
  have HSH := hid hsh
  clear hW0 hE0 ha hb hc hsz hr hWb hzb hsh
  by_cases hk : bk = 8
  · subst hk
    by_cases hm : bi < ai ∨ (bi = ai ∧ left = false)
    · have hs2 : sh = ai + rb := by rw [← HSH.out]; unfold shiftL; rw [if_pos rfl, if_pos hm]
      have HS2 := hid hs2
      have hmm : bi < ai ∨ (¬ bi < ai ∧ (bi == ai) = true ∧ left = false) := by
        rcases hm with h | ⟨h1, h2⟩
        · exact .inl h
        · exact .inr ⟨by omega, by simpa using h1, h2⟩
      clear hs2 hm
      rcases hmm with hm | ⟨hm1, hm2, rfl⟩
      all_goals
        go_enter Tryd.func85, Tryd.ntmps85
        go_wp2_with fail
        rw [HW0.out]
        obtain ⟨a0, a1, a2, a3, a4, a5, a6, a7, a8, a9, a10, a11⟩ := blk12 HA.out
        have b11 := HB.out.cell 11
        simp only [List.getElem?_toArray, List.getElem?_cons_succ, List.getElem?_cons_zero] at b11
        refine wp_region_parts [0, 2] [1, 3, 4, 5] [6, 7] (specOf [(4, fun v w => v = .int .i64 (rb : Nat))]) (fun w' => Ext W0 w') (stable_cons (fun v w w' h he => h) stable_nil) (stableC_ext _) (by kernel_rfl) (by kernel_rfl) (Keep.drew (Keep.refl _ _)) ?_
        iterate 2
          (try simp only [Act.put, List.setIfInBounds_toArray, List.set_cons_zero, List.set_cons_succ])
          refine pure_run rfl rfl ?_
          apply Exists.intro
          refine ⟨fun w' => ?_, ?_⟩
          · go_simp
            rfl
        refine pure_nil ?_
        iterate 2
          (try simp only [Act.put, List.setIfInBounds_toArray, List.set_cons_zero, List.set_cons_succ])
          refine growP_run rfl rfl rfl ?_
          apply Exists.intro
          refine ⟨fun w' hC hK => ?_, ?_⟩
          · have a3 := (hC.cell (lt_of_cell a3) id).trans a3
            have b11 := (hC.cell (lt_of_cell b11) id).trans b11
            go_simp
            rfl
        (try simp only [Act.put, List.setIfInBounds_toArray, List.set_cons_zero, List.set_cons_succ])
        refine growP_eff rfl rfl rfl (fun w' hC hK => ?_) (fun v4 hv4 => ?_)
        · unfold growAt
          go_simp
          refine grow_call ((HLEN.out w').mono ?_)
          rintro e w'' ⟨rfl, h1⟩
          exact ⟨_, rfl, h1, by rw [HRB.out]⟩
        obtain ⟨_, _, rfl⟩ := hv4.head
        clear hv4
        iterate 1
          (try simp only [Act.put, List.setIfInBounds_toArray, List.set_cons_zero, List.set_cons_succ])
          refine growP_run rfl rfl rfl ?_
          apply Exists.intro
          refine ⟨fun w' hC hK => ?_, ?_⟩
          · go_simp
            rfl
        refine growP_nil fun W1 hC hK => ?_
        have hC : Ext W0 W1 := hC
        have hA1 := HA.out.keep hC id
        have q3 := hA1.cell 3
        have f3 := hA1.frozen 3
        simp only [List.getElem?_toArray, List.getElem?_cons_succ, List.getElem?_cons_zero] at q3
        have hC1 := HC.out.keep hC id
        have hkA : Keep (· = w.heap.size) W1 (W1.setCell ⟨w.heap.size, 3, none⟩ (.int .i64 (ai + rb))) := (Keep.refl _ _).set1 3 _
        have HA2 := hid (hA1.set_ 3 (.int .i64 (ai + rb)))
        have HC2 := hid (hC1.keep hkA (by omega))
        have HE2 := hid (HE0.out.trans ((hC.mono fun _ _ h => h.elim : Keep (· = w.heap.size) W0 W1).trans hkA fun _ _ h => h) fun q hq e => by omega)
        clear hC hK hA1 hC1 hkA a0 a1 a2 a3 a4 a5 a6 a7 a8 a9 a10 a11 b11
        change wpList _ _ _ (_ :: _ :: []) _ _
        (try simp only [Act.put, List.setIfInBounds_toArray, List.set_cons_zero, List.set_cons_succ])
        go_wp2_with fail
        refine NoPanic.normal ?_
        generalize W1.setCell ⟨w.heap.size, 3, none⟩ (.int .i64 (ai + rb)) = W2 at *
        clear q3 f3
        obtain ⟨a0, a1, a2, a3, a4, a5, a6, a7, a8, a9, a10, a11⟩ := blk12 HA2.out
        obtain ⟨c0, c1, c2, c3', c4', c5, c6, c7, c8, c9, c10, c11⟩ := blk12 HC2.out
        have g0 := HC2.out.frozen 0
        have g1 := HC2.out.frozen 1
        have g2 := HC2.out.frozen 2
        have g3 := HC2.out.frozen 3
        have g4 := HC2.out.frozen 4
        have g5 := HC2.out.frozen 5
        have g6 := HC2.out.frozen 6
        have g7 := HC2.out.frozen 7
        have g8 := HC2.out.frozen 8
        have g9 := HC2.out.frozen 9
        have g10 := HC2.out.frozen 10
        have g11 := HC2.out.frozen 11
        go_wp2
        obtain ⟨r0, r1, r2, r3, r4, r5, r6, r7, r8, r9, r10, r11⟩ := blk12 (put12_blk HC2.out (U8 k) (.slice pA pn pc) (.string key) (.int .i64 (ai + rb)) (.int .i64 j) (.int .i64 an) (U8 y0) (.int .i64 y1) (.string y2) (.slice A3 n3 c3) (.slice A4 n4 c4) (.string s))
        have HEF := hid (HE2.out.trans (put12_keep W2 (w.heap.size + 2) (U8 k) (.slice pA pn pc) (.string key) (.int .i64 (ai + rb)) (.int .i64 j) (.int .i64 an) (U8 y0) (.int .i64 y1) (.string y2) (.slice A3 n3 c3) (.slice A4 n4 c4) (.string s)) fun q hq e => by omega)
        change bodyPost _ _ _ _ _ (put12 W2 (w.heap.size + 2) (U8 k) (.slice pA pn pc) (.string key) (.int .i64 (ai + rb)) (.int .i64 j) (.int .i64 an) (U8 y0) (.int .i64 y1) (.string y2) (.slice A3 n3 c3) (.slice A4 n4 c4) (.string s))
        generalize put12 W2 (w.heap.size + 2) (U8 k) (.slice pA pn pc) (.string key) (.int .i64 (ai + rb)) (.int .i64 j) (.int .i64 an) (U8 y0) (.int .i64 y1) (.string y2) (.slice A3 n3 c3) (.slice A4 n4 c4) (.string s) = WF at *
        refine bodyPost_ret (v := tcV (U8 k) (.slice pA pn pc) (.string key) (ai + rb) (.int .i64 j) an (U8 y0) (.int .i64 y1) (.string y2) (.slice A3 n3 c3) (.slice A4 n4 c4) (.string s)) (by simp [results, Tryd.results85, go_sem, r0, r1, r2, r3, r4, r5, r6, r7, r8, r9, r10, r11]) rfl ⟨by rw [HS2.out], HEF.out⟩
    · have hs2 : sh = ai := by rw [← HSH.out]; unfold shiftL; rw [if_pos rfl, if_neg hm]
      have HS2 := hid hs2
      have hmm : (¬ bi < ai ∧ (bi == ai) = false) ∨ (¬ bi < ai ∧ (bi == ai) = true ∧ left = true) := by
        by_cases h : bi = ai
        · refine .inr ⟨by omega, by simpa using h, ?_⟩
          cases left
          · exact absurd (.inr ⟨h, rfl⟩) hm
          · rfl
        · refine .inl ⟨fun h' => hm (.inl h'), by simpa using h⟩
      clear hs2 hm
      have hEF : Ext w (((w.alloc (.cells (tcA (U8 k) (.slice pA pn pc) (.string key) ai (.int .i64 j) an (U8 y0) (.int .i64 y1) (.string y2) (.slice A3 n3 c3) (.slice A4 n4 c4) (.string s)) TCOMP)).alloc (.cells (tcA (U8 8) p' key' bi j' bn u0 u1 u2 u3 u4 (.string bs)) TCOMP)).alloc (.cells #[.int .u8 k.toNat, .slice pA pn pc, .string key, .int .i64 ai, .int .i64 j, .int .i64 an, .int .u8 y0.toNat, .int .i64 y1, .string y2, .slice A3 n3 c3, .slice A4 n4 c4, .string s] TCOMP)) := (((Keep.refl _ _).alloc _).alloc _).alloc _
      have HEF := hid hEF
      clear hEF
      rcases hmm with ⟨hm1, hm2⟩ | ⟨hm1, hm2, rfl⟩
      all_goals
        go_enter Tryd.func85, Tryd.ntmps85
        go_wp2
        refine bodyPost_ret (v := tcV (U8 k) (.slice pA pn pc) (.string key) (ai) (.int .i64 j) an (U8 y0) (.int .i64 y1) (.string y2) (.slice A3 n3 c3) (.slice A4 n4 c4) (.string s)) (by simp [results, Tryd.results85, go_sem]) rfl ⟨by rw [HS2.out], HEF.out⟩
  · rw [← HSH.out, ← HRB.out]
    exact shift_del k pA pn pc key j y0 y1 y2 A3 n3 c3 A4 n4 c4 s bk p' key' j' u0 u1 u2 u3 u4 bs ai an bi bn left ⟨hai1, hai2⟩ ⟨hbi1, hbi2⟩ ⟨hbn1, hbn2⟩ hbs hk w
end Go.Proofs.YtioplgfopillnaaDoor
