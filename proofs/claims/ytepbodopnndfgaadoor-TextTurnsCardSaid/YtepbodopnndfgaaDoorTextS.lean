/- The reference's text.Turn by contract. -/
import Derived.Test.YtepbodopnndfgaaDoorTextR
set_option linter.unusedSimpArgs false
set_option linter.unusedVariables false
namespace Go.Proofs.YtepbodopnndfgaaDoor
open Go.RowKit
set_option linter.unusedVariables false

set_option maxRecDepth 100000 in
set_option maxHeartbeats 3200000 in
theorem behind_any (k : UInt8) (pA : Option Addr) (pn pc : Nat) (key : ByteArray) (j : Int) (y0 : UInt8) (y1 : Int) (y2 : ByteArray) (A3 : Option Addr) (n3 c3 : Nat) (A4 : Option Addr) (n4 c4 : Nat) (s : ByteArray) (bk : UInt8) (p' key' j' u0 u1 u2 u3 u4 : Value) (bs : ByteArray) (ai an bi bn : Int) (hai : Tm ai) (han : Tm an) (hbi : Tm bi) (hbn : Tm bn) (w : World) :
    Calls Tryd.prog 18 #[tcV (U8 k) (.slice pA pn pc) (.string key) ai (.int .i64 j) an (U8 y0) (.int .i64 y1) (.string y2) (.slice A3 n3 c3) (.slice A4 n4 c4) (.string s), tcV (U8 bk) p' key' bi j' bn u0 u1 u2 u3 u4 (.string bs)] w
      (TextIs (U8 k) (.slice pA pn pc) (.string key) (.int .i64 j) (U8 y0) (.int .i64 y1) (.string y2) (.slice A3 n3 c3) (.slice A4 n4 c4) (.string s) w (if (shrinkL ai an bi bn).2 = 0 then [] else [shrinkL ai an bi bn])) := by
  obtain ⟨hai1, hai2⟩ := hai
  obtain ⟨han1, han2⟩ := han
  obtain ⟨hbi1, hbi2⟩ := hbi
  obtain ⟨hbn1, hbn2⟩ := hbn
  obtain ⟨W0, hW0⟩ : ∃ W0, (w.alloc (.cells (tcA (U8 k) (.slice pA pn pc) (.string key) ai (.int .i64 j) an (U8 y0) (.int .i64 y1) (.string y2) (.slice A3 n3 c3) (.slice A4 n4 c4) (.string s)) TCOMP)).alloc (.cells (tcA (U8 bk) p' key' bi j' bn u0 u1 u2 u3 u4 (.string bs)) TCOMP) = W0 := ⟨_, rfl⟩
  have hE0 : Ext w W0 := by rw [← hW0]; exact ((Keep.refl _ _).alloc _).alloc _
  have hsz : W0.heap.size = w.heap.size + 2 := by rw [← hW0]; simp
  have ha : Blk W0 w.heap.size TCOMP (tcA (U8 k) (.slice pA pn pc) (.string key) ai (.int .i64 j) an (U8 y0) (.int .i64 y1) (.string y2) (.slice A3 n3 c3) (.slice A4 n4 c4) (.string s)) := by rw [← hW0]; exact (Blk.new w TCOMP _).alloc _
  have hb : Blk W0 (w.heap.size + 1) TCOMP (tcA (U8 bk) p' key' bi j' bn u0 u1 u2 u3 u4 (.string bs)) := by
    have := Blk.new (w.alloc (.cells (tcA (U8 k) (.slice pA pn pc) (.string key) ai (.int .i64 j) an (U8 y0) (.int .i64 y1) (.string y2) (.slice A3 n3 c3) (.slice A4 n4 c4) (.string s)) TCOMP)) TCOMP (tcA (U8 bk) p' key' bi j' bn u0 u1 u2 u3 u4 (.string bs))
    rw [World.size_alloc] at this
    rw [← hW0]; exact this
  have HSZ := hid hsz
  have HA := hid ha
  have HB := hid hb
  have HE0 := hid hE0
  obtain ⟨a0, a1, a2, a3, a4, a5, a6, a7, a8, a9, a10, a11⟩ := blk12 ha
  obtain ⟨b0, b1, b2, b3, b4, b5, b6, b7, b8, b9, b10, b11⟩ := blk12 hb
  have f3 := ha.frozen 3
  have f5 := ha.frozen 5
  obtain ⟨ah, hah⟩ : ∃ ah, max (min ai (bi + bn) - bi) 0 = ah := ⟨_, rfl⟩
  obtain ⟨bo, hbo⟩ : ∃ bo, max (min (ai + an) (bi + bn) - max ai bi) 0 = bo := ⟨_, rfl⟩
  have hahb : 0 ≤ ah ∧ ah ≤ 1152921504606846976 := by omega
  have hbob : 0 ≤ bo ∧ bo ≤ an := by omega
  have hsh : shrinkL ai an bi bn = (ai - ah, an - bo) := by unfold shrinkL; rw [hbo, show max (min (bi + bn) ai - bi) 0 = ah from by rw [← hah]; omega]
  rw [hsh]
  obtain ⟨W1, hW1⟩ : ∃ W1, W0.setCell ⟨w.heap.size, 5, none⟩ (.int .i64 (an - bo)) = W1 := ⟨_, rfl⟩
  have hk1 : Keep (· = w.heap.size) W0 W1 := by rw [← hW1]; exact (Keep.refl _ _).set1 5 _
  have ha1 : Blk W1 w.heap.size TCOMP _ := hW1 ▸ ha.set_ 5 (.int .i64 (an - bo))
  obtain ⟨W2, hW2⟩ : ∃ W2, W1.setCell ⟨w.heap.size, 3, none⟩ (.int .i64 (ai - ah)) = W2 := ⟨_, rfl⟩
  have hk2 : Keep (· = w.heap.size) W1 W2 := by rw [← hW2]; exact (Keep.refl _ _).set1 3 _
  have ha2 : Blk W2 w.heap.size TCOMP _ := hW2 ▸ ha1.set_ 3 (.int .i64 (ai - ah))
  have q3 := ha1.cell 3
  have g3 := ha1.frozen 3
  simp at q3
  obtain ⟨c0, c1, c2, c3', c4', c5, c6, c7, c8, c9, c10, c11⟩ := blk12 ha2
  have HE2 := hid (HE0.out.trans (hk1.trans hk2 fun _ _ h => h) fun q hq e => by omega)
  have HAH := hid hah
  have HBO := hid hbo
  clear hk1 hk2 ha1 ha2 ha hb hE0 hsz hsh
  by_cases hn : an - bo = 0
  · have hn' : (an - bo == 0) = true := by simpa using hn
    rw [if_pos hn]
    clear hn
    go_enter Tryd.func18, Tryd.ntmps18
    go_wp2
    go_ret
    exact text_nil _ _ _ _ _ _ _ _ _ _ HE2.out
  · have hn' : (an - bo == 0) = false := by simpa using hn
    rw [if_neg hn]
    clear hn
    go_enter Tryd.func18, Tryd.ntmps18
    go_wp2
    go_ret
    exact text_one _ _ _ _ _ _ _ _ _ _ HE2.out rfl
end Go.Proofs.YtepbodopnndfgaaDoor
