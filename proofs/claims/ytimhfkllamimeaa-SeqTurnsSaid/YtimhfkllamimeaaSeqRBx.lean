/- The reference of chapter 05: move (kind x). -/
import Derived.Test.YtimhfkllamimeaaSeqRA
set_option linter.unusedSimpArgs false
set_option linter.unusedVariables false
namespace Go.Proofs.Ytimhfkllamimeaa
open Go.RowKit

set_option maxHeartbeats 12800000 in
theorem rmove_x (bk : UInt8) (h0 : knownL bk = false) (h4 : ((bk.toNat : Int) == 4) = false) (h5 : ((bk.toNat : Int) == 5) = false) (h6 : ((bk.toNat : Int) == 6) = false) (h7 : ((bk.toNat : Int) == 7) = false) (ak : UInt8) (ap akey ann a0 a1 a2 a3 a4 as_ p key nn v0 v1 v2 v3 v4 s : Value) (ai aj bi bj : Int) (left : Bool) (w : World) (hai : Sm ai) (haj : Sm aj) (hbi : Sm bi) (hbj : Sm bj) :
    Calls Try.prog 43 #[cmpV (U8 ak) ap akey ai aj ann a0 a1 a2 a3 a4 as_, cmpV (U8 bk) p key bi bj nn v0 v1 v2 v3 v4 s, .bool left] w (CompIs (U8 ak) ap akey ann a0 a1 a2 a3 a4 as_ w (moveL ai aj bk bi bj left)) := by
  have hA : Blk ((w.alloc (.cells (aC ak ai aj ap akey ann a0 a1 a2 a3 a4 as_) TCOMP)).alloc (.cells (aC bk bi bj p key nn v0 v1 v2 v3 v4 s) TCOMP)) w.heap.size TCOMP (aC ak ai aj ap akey ann a0 a1 a2 a3 a4 as_) := (Blk.new _ _ _).alloc _
  have HA := hid hA
  have HE1 := hid (show Ext w ((w.alloc (.cells (aC ak ai aj ap akey ann a0 a1 a2 a3 a4 as_) TCOMP)).alloc (.cells (aC bk bi bj p key nn v0 v1 v2 v3 v4 s) TCOMP)) from ((Keep.refl _ _).alloc _).alloc _)
  have HAT := hid (fun w => rat_any bk p key nn v0 v1 v2 v3 v4 s bi bj ai w hai hbi hbj)
  have b1 := bl_bd ai bi
  have b2 := bl_bd bi ai
  have b3 := bl_bd (bi - bl ai bi) aj
  have b4 := bl_bd (ai - bl bi ai) bj
  have L1 := fun w => less_any bi ai w hbi
  have L2 := fun w => less_any ai bi w hai
  have L3 := fun w => less_any aj (bi - bl ai bi) w haj
  have L4 := fun w => less_any bj (ai - bl bi ai) w hbj
  obtain ⟨hai1, hai2⟩ := hai
  obtain ⟨haj1, haj2⟩ := haj
  obtain ⟨hbi1, hbi2⟩ := hbi
  obtain ⟨hbj1, hbj2⟩ := hbj
  obtain ⟨x, hx⟩ : ∃ x, x = aj - bl (bi - bl ai bi) aj := ⟨_, rfl⟩
  obtain ⟨y, hy⟩ : ∃ y, y = bj - bl (ai - bl bi ai) bj := ⟨_, rfl⟩
  obtain ⟨g, hg⟩ : ∃ g, g = bi - bl ai bi := ⟨_, rfl⟩
  obtain ⟨q, hq⟩ : ∃ q, q = ai - bl bi ai := ⟨_, rfl⟩
  rw [← hg] at L1 L3 hx
  rw [← hq] at L2 L4 hy
  rw [← hx] at L3
  rw [← hy] at L4
  have hxb : -1099511627777 ≤ x ∧ x ≤ 1099511627776 := by rw [← hg] at b3; omega
  have hyb : -1099511627777 ≤ y ∧ y ≤ 1099511627776 := by rw [← hq] at b4; omega
  have HL1 := hid L1
  have HL2 := hid L2
  have HL3 := hid L3
  have HL4 := hid L4
  have HX := hid hx
  have HY := hid hy
  have HG := hid hg
  have HQ := hid hq
  clear hA L1 L2 L3 L4 hx hy hg hq b1 b2 b3 b4
  have HK := hid (show bk ≠ 4 ∧ bk ≠ 5 ∧ bk ≠ 6 ∧ bk ≠ 7 from by simp [knownL] at h0; exact ⟨h0.1.1.1, h0.1.1.2, h0.1.2, h0.2⟩)
  go_enter Try.func43, Try.ntmps43
  go_wp2_with (first
            | (go_at_call 41; refine (HL1.out _).mono ?_; rintro e w' ⟨rfl, rfl⟩)
            | (go_at_call 41; refine (HL2.out _).mono ?_; rintro e w' ⟨rfl, rfl⟩)
            | (go_at_call 41; refine (HL3.out _).mono ?_; rintro e w' ⟨rfl, rfl⟩)
            | (go_at_call 41; refine (HL4.out _).mono ?_; rintro e w' ⟨rfl, rfl⟩)
            | (go_at_call 23; refine (HAT.out _).mono ?_; rintro e w2 ⟨rfl, hT2⟩; have hA2 := HA.out.keep hT2 id; have HT2 := hid hT2;
               have qa0 := hA2.cell 0; have qa1 := hA2.cell 1; have qa2 := hA2.cell 2; have qa3 := hA2.cell 3; have qa4 := hA2.cell 4; have qa5 := hA2.cell 5; have qa6 := hA2.cell 6; have qa7 := hA2.cell 7; have qa8 := hA2.cell 8; have qa9 := hA2.cell 9; have qa10 := hA2.cell 10; have qa11 := hA2.cell 11;
               have f3 := hA2.frozen 3; have f4 := hA2.frozen 4;
               simp at qa0 qa1 qa2 qa3 qa4 qa5 qa6 qa7 qa8 qa9 qa10 qa11; clear hA2 hT2))
  go_ret
  obtain ⟨k4, k5, k6, k7⟩ := HK.out
  refine comp_some _ _ _ _ _ _ _ _ _ _ (by simp [moveL, targetL, k4, k5, k6, k7]; done) (by simp) (ext_own (HE1.out.ext HT2.out) (Nat.le_refl _) (((Keep.refl (· = w.heap.size) _).set1 3 _).set1 4 _))
end Go.Proofs.Ytimhfkllamimeaa
