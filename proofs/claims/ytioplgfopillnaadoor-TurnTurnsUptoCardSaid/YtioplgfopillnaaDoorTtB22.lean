/- SeqRB4, SeqRB5, SeqRB6, SeqRB7, SeqRBx, SeqRC, LayDR, Open, OpenEl, OpenX: laid together. -/
import Derived.Test.YtioplgfopillnaaDoorTtB17
import Derived.Shelf.Unicode.DecodeAny
import Derived.Ground.NamesProg
import Derived.Test.YtioplgfopillnaaDoorProg
import Derived.Test.YtioplgfopillnaaDoorTtB1
import Derived.OpenShut
import Derived.ProofKit
import Derived.ChangeOld
import Derived.Deep.Slices
import Derived.Deep.Fields
import Derived.ChangeArms
import Derived.SizedLaws
/- The reference of chapter 05: move (kind 4). -/
set_option linter.unusedSimpArgs false
set_option linter.unusedVariables false
namespace Go.Proofs.YtioplgfopillnaaDoor
open Go.RowKit

set_option maxHeartbeats 12800000 in
theorem rmove_4 (ak : UInt8) (ap akey ann a0 a1 a2 a3 a4 as_ p key nn v0 v1 v2 v3 v4 s : Value) (ai aj bi bj : Int) (left : Bool) (w : World) (hai : Sm ai) (haj : Sm aj) (hbi : Sm bi) (hbj : Sm bj) :
    Calls Tryd.prog 63 #[cmpV (U8 ak) ap akey ai aj ann a0 a1 a2 a3 a4 as_, cmpV (U8 4) p key bi bj nn v0 v1 v2 v3 v4 s, .bool left] w (CompIs (U8 ak) ap akey ann a0 a1 a2 a3 a4 as_ w (moveL ai aj 4 bi bj left)) := by
  have hA : Blk ((w.alloc (.cells (aC ak ai aj ap akey ann a0 a1 a2 a3 a4 as_) 33)).alloc (.cells (aC 4 bi bj p key nn v0 v1 v2 v3 v4 s) 33)) w.heap.size 33 (aC ak ai aj ap akey ann a0 a1 a2 a3 a4 as_) := (Blk.new _ _ _).alloc _
  have HA := hid hA
  have HE1 := hid (show Ext w ((w.alloc (.cells (aC ak ai aj ap akey ann a0 a1 a2 a3 a4 as_) 33)).alloc (.cells (aC 4 bi bj p key nn v0 v1 v2 v3 v4 s) 33)) from ((Keep.refl _ _).alloc _).alloc _)
  have HAT := hid (fun w => rat_any 4 p key nn v0 v1 v2 v3 v4 s bi bj ai w hai hbi hbj)
  have b1 := bl_bd ai bi
  have b2 := bl_bd bi ai
  have b3 := bl_bd (bi - bl ai bi) aj
  have b4 := bl_bd (ai - bl bi ai) bj
  have L1 := fun w => less_any bi ai w hbi
  have L2 := fun w => less_any ai bi w hai
  have L3 := fun w => less_any aj (bi - bl ai bi) w haj
  have L4 := fun w => less_any bj (ai - bl bi ai) w hbj
  obtain ⟨hai1, hai2⟩ := hai
  obtain ⟨haj1, haj2⟩ := haj
  obtain ⟨hbi1, hbi2⟩ := hbi
  obtain ⟨hbj1, hbj2⟩ := hbj
  obtain ⟨x, hx⟩ : ∃ x, x = aj - bl (bi - bl ai bi) aj := ⟨_, rfl⟩
  obtain ⟨y, hy⟩ : ∃ y, y = bj - bl (ai - bl bi ai) bj := ⟨_, rfl⟩
  obtain ⟨g, hg⟩ : ∃ g, g = bi - bl ai bi := ⟨_, rfl⟩
  obtain ⟨q, hq⟩ : ∃ q, q = ai - bl bi ai := ⟨_, rfl⟩
  rw [← hg] at L1 L3 hx
  rw [← hq] at L2 L4 hy
  rw [← hx] at L3
  rw [← hy] at L4
  have hxb : -1099511627777 ≤ x ∧ x ≤ 1099511627776 := by rw [← hg] at b3; omega
  have hyb : -1099511627777 ≤ y ∧ y ≤ 1099511627776 := by rw [← hq] at b4; omega
  have HL1 := hid L1
  have HL2 := hid L2
  have HL3 := hid L3
  have HL4 := hid L4
  have HX := hid hx
  have HY := hid hy
  have HG := hid hg
  have HQ := hid hq
  clear hA L1 L2 L3 L4 hx hy hg hq b1 b2 b3 b4
  rcases tri g aj with ⟨t1, t2, t4⟩ | rfl | ⟨t1, t2, t4, t3⟩
  all_goals
    cases left
    all_goals
      go_enter Tryd.func63, Tryd.ntmps63
      go_wp2_with (first
                | (go_at_call 88; refine (HL1.out _).mono ?_; rintro e w' ⟨rfl, rfl⟩)
                | (go_at_call 88; refine (HL2.out _).mono ?_; rintro e w' ⟨rfl, rfl⟩)
                | (go_at_call 88; refine (HL3.out _).mono ?_; rintro e w' ⟨rfl, rfl⟩)
                | (go_at_call 88; refine (HL4.out _).mono ?_; rintro e w' ⟨rfl, rfl⟩)
                | (go_at_call 60; refine (HAT.out _).mono ?_; rintro e w2 ⟨rfl, hT2⟩; have hA2 := HA.out.keep hT2 id; have HT2 := hid hT2;
                   have qa0 := hA2.cell 0; have qa1 := hA2.cell 1; have qa2 := hA2.cell 2; have qa3 := hA2.cell 3; have qa4 := hA2.cell 4; have qa5 := hA2.cell 5; have qa6 := hA2.cell 6; have qa7 := hA2.cell 7; have qa8 := hA2.cell 8; have qa9 := hA2.cell 9; have qa10 := hA2.cell 10; have qa11 := hA2.cell 11;
                   have f3 := hA2.frozen 3; have f4 := hA2.frozen 4;
                   simp at qa0 qa1 qa2 qa3 qa4 qa5 qa6 qa7 qa8 qa9 qa10 qa11; clear hA2 hT2))
      go_ret
      refine comp_some _ _ _ _ _ _ _ _ _ _ (by first | (simp [moveL, targetL, ← HG.out, ← HQ.out, ← HX.out, ← HY.out]; done) | (simp [moveL, targetL, ← HG.out, ← HQ.out, ← HX.out, ← HY.out, up_eq]; done) | (simp [moveL, targetL, ← HG.out, ← HQ.out, ← HX.out, ← HY.out, up_lt t1]; done) | (simp [moveL, targetL, ← HG.out, ← HQ.out, ← HX.out, ← HY.out, up_gt t1]; done)) (by simp) (ext_own (HE1.out.ext HT2.out) (Nat.le_refl _) (((Keep.refl (· = w.heap.size) _).set1 3 _).set1 4 _))
end Go.Proofs.YtioplgfopillnaaDoor

/- The reference of chapter 05: move (kind 5). -/
set_option linter.unusedSimpArgs false
set_option linter.unusedVariables false
namespace Go.Proofs.YtioplgfopillnaaDoor
open Go.RowKit

set_option maxHeartbeats 12800000 in
theorem rmove_5 (ak : UInt8) (ap akey ann a0 a1 a2 a3 a4 as_ p key nn v0 v1 v2 v3 v4 s : Value) (ai aj bi bj : Int) (left : Bool) (w : World) (hai : Sm ai) (haj : Sm aj) (hbi : Sm bi) (hbj : Sm bj) :
    Calls Tryd.prog 63 #[cmpV (U8 ak) ap akey ai aj ann a0 a1 a2 a3 a4 as_, cmpV (U8 5) p key bi bj nn v0 v1 v2 v3 v4 s, .bool left] w (CompIs (U8 ak) ap akey ann a0 a1 a2 a3 a4 as_ w (moveL ai aj 5 bi bj left)) := by
  have hA : Blk ((w.alloc (.cells (aC ak ai aj ap akey ann a0 a1 a2 a3 a4 as_) 33)).alloc (.cells (aC 5 bi bj p key nn v0 v1 v2 v3 v4 s) 33)) w.heap.size 33 (aC ak ai aj ap akey ann a0 a1 a2 a3 a4 as_) := (Blk.new _ _ _).alloc _
  have HA := hid hA
  have HE1 := hid (show Ext w ((w.alloc (.cells (aC ak ai aj ap akey ann a0 a1 a2 a3 a4 as_) 33)).alloc (.cells (aC 5 bi bj p key nn v0 v1 v2 v3 v4 s) 33)) from ((Keep.refl _ _).alloc _).alloc _)
  have HAT := hid (fun w => rat_any 5 p key nn v0 v1 v2 v3 v4 s bi bj ai w hai hbi hbj)
  have b1 := bl_bd ai bi
  have b2 := bl_bd bi ai
  have b3 := bl_bd (bi - bl ai bi) aj
  have b4 := bl_bd (ai - bl bi ai) bj
  have L1 := fun w => less_any bi ai w hbi
  have L2 := fun w => less_any ai bi w hai
  have L3 := fun w => less_any aj (bi - bl ai bi) w haj
  have L4 := fun w => less_any bj (ai - bl bi ai) w hbj
  obtain ⟨hai1, hai2⟩ := hai
  obtain ⟨haj1, haj2⟩ := haj
  obtain ⟨hbi1, hbi2⟩ := hbi
  obtain ⟨hbj1, hbj2⟩ := hbj
  obtain ⟨x, hx⟩ : ∃ x, x = aj - bl (bi - bl ai bi) aj := ⟨_, rfl⟩
  obtain ⟨y, hy⟩ : ∃ y, y = bj - bl (ai - bl bi ai) bj := ⟨_, rfl⟩
  obtain ⟨g, hg⟩ : ∃ g, g = bi - bl ai bi := ⟨_, rfl⟩
  obtain ⟨q, hq⟩ : ∃ q, q = ai - bl bi ai := ⟨_, rfl⟩
  rw [← hg] at L1 L3 hx
  rw [← hq] at L2 L4 hy
  rw [← hx] at L3
  rw [← hy] at L4
  have hxb : -1099511627777 ≤ x ∧ x ≤ 1099511627776 := by rw [← hg] at b3; omega
  have hyb : -1099511627777 ≤ y ∧ y ≤ 1099511627776 := by rw [← hq] at b4; omega
  have HL1 := hid L1
  have HL2 := hid L2
  have HL3 := hid L3
  have HL4 := hid L4
  have HX := hid hx
  have HY := hid hy
  have HG := hid hg
  have HQ := hid hq
  clear hA L1 L2 L3 L4 hx hy hg hq b1 b2 b3 b4
  by_cases he : ai = bi
  · subst he
    go_enter Tryd.func63, Tryd.ntmps63
    go_wp2_with (first | (go_at_call 88; refine (HL1.out _).mono ?_; rintro e w' ⟨rfl, rfl⟩))
    go_ret
    exact comp_none _ _ _ _ _ _ _ _ _ _ (by simp [moveL]; done) HE1.out
  · have he' : (ai == bi) = false := by simpa using he
    have HNE := hid he
    clear he
    go_enter Tryd.func63, Tryd.ntmps63
    go_wp2_with fail
    refine (HL1.out _).mono ?_
    rintro e w' ⟨rfl, rfl⟩
    go_wp2_with fail
    refine (HL3.out _).mono ?_
    rintro e w' ⟨rfl, rfl⟩
    go_wp2_with fail
    refine (HAT.out _).mono ?_
    rintro e w2 ⟨rfl, hT2⟩
    have hA2 := HA.out.keep hT2 id
    have HT2 := hid hT2
    have qa0 := hA2.cell 0
    have qa1 := hA2.cell 1
    have qa2 := hA2.cell 2
    have qa3 := hA2.cell 3
    have qa4 := hA2.cell 4
    have qa5 := hA2.cell 5
    have qa6 := hA2.cell 6
    have qa7 := hA2.cell 7
    have qa8 := hA2.cell 8
    have qa9 := hA2.cell 9
    have qa10 := hA2.cell 10
    have qa11 := hA2.cell 11
    simp at qa0 qa1 qa2 qa3 qa4 qa5 qa6 qa7 qa8 qa9 qa10 qa11
    have f3 := hA2.frozen 3
    have f4 := hA2.frozen 4
    clear hA2 hT2
    go_wp2_with fail
    go_ret
    refine comp_some _ _ _ _ _ _ _ _ _ _ (by first | (simp [moveL, targetL, ← HG.out, ← HQ.out, ← HX.out, ← HY.out, HNE.out]; done)) (by simp) (ext_own (HE1.out.ext HT2.out) (Nat.le_refl _) (((Keep.refl (· = w.heap.size) _).set1 3 _).set1 4 _))
end Go.Proofs.YtioplgfopillnaaDoor

/- The reference of chapter 05: move (kind 6). -/
set_option linter.unusedSimpArgs false
set_option linter.unusedVariables false
namespace Go.Proofs.YtioplgfopillnaaDoor
open Go.RowKit

set_option maxHeartbeats 12800000 in
theorem rmove_6 (ak : UInt8) (ap akey ann a0 a1 a2 a3 a4 as_ p key nn v0 v1 v2 v3 v4 s : Value) (ai aj bi bj : Int) (left : Bool) (w : World) (hai : Sm ai) (haj : Sm aj) (hbi : Sm bi) (hbj : Sm bj) :
    Calls Tryd.prog 63 #[cmpV (U8 ak) ap akey ai aj ann a0 a1 a2 a3 a4 as_, cmpV (U8 6) p key bi bj nn v0 v1 v2 v3 v4 s, .bool left] w (CompIs (U8 ak) ap akey ann a0 a1 a2 a3 a4 as_ w (moveL ai aj 6 bi bj left)) := by
  have hA : Blk ((w.alloc (.cells (aC ak ai aj ap akey ann a0 a1 a2 a3 a4 as_) 33)).alloc (.cells (aC 6 bi bj p key nn v0 v1 v2 v3 v4 s) 33)) w.heap.size 33 (aC ak ai aj ap akey ann a0 a1 a2 a3 a4 as_) := (Blk.new _ _ _).alloc _
  have HA := hid hA
  have HE1 := hid (show Ext w ((w.alloc (.cells (aC ak ai aj ap akey ann a0 a1 a2 a3 a4 as_) 33)).alloc (.cells (aC 6 bi bj p key nn v0 v1 v2 v3 v4 s) 33)) from ((Keep.refl _ _).alloc _).alloc _)
  have HAT := hid (fun w => rat_any 6 p key nn v0 v1 v2 v3 v4 s bi bj ai w hai hbi hbj)
  have b1 := bl_bd ai bi
  have b2 := bl_bd bi ai
  have b3 := bl_bd (bi - bl ai bi) aj
  have b4 := bl_bd (ai - bl bi ai) bj
  have L1 := fun w => less_any bi ai w hbi
  have L2 := fun w => less_any ai bi w hai
  have L3 := fun w => less_any aj (bi - bl ai bi) w haj
  have L4 := fun w => less_any bj (ai - bl bi ai) w hbj
  obtain ⟨hai1, hai2⟩ := hai
  obtain ⟨haj1, haj2⟩ := haj
  obtain ⟨hbi1, hbi2⟩ := hbi
  obtain ⟨hbj1, hbj2⟩ := hbj
  obtain ⟨x, hx⟩ : ∃ x, x = aj - bl (bi - bl ai bi) aj := ⟨_, rfl⟩
  obtain ⟨y, hy⟩ : ∃ y, y = bj - bl (ai - bl bi ai) bj := ⟨_, rfl⟩
  obtain ⟨g, hg⟩ : ∃ g, g = bi - bl ai bi := ⟨_, rfl⟩
  obtain ⟨q, hq⟩ : ∃ q, q = ai - bl bi ai := ⟨_, rfl⟩
  rw [← hg] at L1 L3 hx
  rw [← hq] at L2 L4 hy
  rw [← hx] at L3
  rw [← hy] at L4
  have hxb : -1099511627777 ≤ x ∧ x ≤ 1099511627776 := by rw [← hg] at b3; omega
  have hyb : -1099511627777 ≤ y ∧ y ≤ 1099511627776 := by rw [← hq] at b4; omega
  have HL1 := hid L1
  have HL2 := hid L2
  have HL3 := hid L3
  have HL4 := hid L4
  have HX := hid hx
  have HY := hid hy
  have HG := hid hg
  have HQ := hid hq
  clear hA L1 L2 L3 L4 hx hy hg hq b1 b2 b3 b4
  go_enter Tryd.func63, Tryd.ntmps63
  go_wp2_with (first
            | (go_at_call 88; refine (HL1.out _).mono ?_; rintro e w' ⟨rfl, rfl⟩)
            | (go_at_call 88; refine (HL2.out _).mono ?_; rintro e w' ⟨rfl, rfl⟩)
            | (go_at_call 88; refine (HL3.out _).mono ?_; rintro e w' ⟨rfl, rfl⟩)
            | (go_at_call 88; refine (HL4.out _).mono ?_; rintro e w' ⟨rfl, rfl⟩)
            | (go_at_call 60; refine (HAT.out _).mono ?_; rintro e w2 ⟨rfl, hT2⟩; have hA2 := HA.out.keep hT2 id; have HT2 := hid hT2;
               have qa0 := hA2.cell 0; have qa1 := hA2.cell 1; have qa2 := hA2.cell 2; have qa3 := hA2.cell 3; have qa4 := hA2.cell 4; have qa5 := hA2.cell 5; have qa6 := hA2.cell 6; have qa7 := hA2.cell 7; have qa8 := hA2.cell 8; have qa9 := hA2.cell 9; have qa10 := hA2.cell 10; have qa11 := hA2.cell 11;
               have f3 := hA2.frozen 3; have f4 := hA2.frozen 4;
               simp at qa0 qa1 qa2 qa3 qa4 qa5 qa6 qa7 qa8 qa9 qa10 qa11; clear hA2 hT2))
  go_ret
  refine comp_some _ _ _ _ _ _ _ _ _ _ (by simp [moveL, targetL]; done) (by simp) (((Keep.refl _ _).alloc _).alloc _)
end Go.Proofs.YtioplgfopillnaaDoor

/- The reference of chapter 05: move (kind 7). -/
set_option linter.unusedSimpArgs false
set_option linter.unusedVariables false
namespace Go.Proofs.YtioplgfopillnaaDoor
open Go.RowKit

set_option maxHeartbeats 12800000 in
theorem rmove_7 (ak : UInt8) (ap akey ann a0 a1 a2 a3 a4 as_ p key nn v0 v1 v2 v3 v4 s : Value) (ai aj bi bj : Int) (left : Bool) (w : World) (hai : Sm ai) (haj : Sm aj) (hbi : Sm bi) (hbj : Sm bj) :
    Calls Tryd.prog 63 #[cmpV (U8 ak) ap akey ai aj ann a0 a1 a2 a3 a4 as_, cmpV (U8 7) p key bi bj nn v0 v1 v2 v3 v4 s, .bool left] w (CompIs (U8 ak) ap akey ann a0 a1 a2 a3 a4 as_ w (moveL ai aj 7 bi bj left)) := by
  have hA : Blk ((w.alloc (.cells (aC ak ai aj ap akey ann a0 a1 a2 a3 a4 as_) 33)).alloc (.cells (aC 7 bi bj p key nn v0 v1 v2 v3 v4 s) 33)) w.heap.size 33 (aC ak ai aj ap akey ann a0 a1 a2 a3 a4 as_) := (Blk.new _ _ _).alloc _
  have HA := hid hA
  have HE1 := hid (show Ext w ((w.alloc (.cells (aC ak ai aj ap akey ann a0 a1 a2 a3 a4 as_) 33)).alloc (.cells (aC 7 bi bj p key nn v0 v1 v2 v3 v4 s) 33)) from ((Keep.refl _ _).alloc _).alloc _)
  have HAT := hid (fun w => rat_any 7 p key nn v0 v1 v2 v3 v4 s bi bj ai w hai hbi hbj)
  have b1 := bl_bd ai bi
  have b2 := bl_bd bi ai
  have b3 := bl_bd (bi - bl ai bi) aj
  have b4 := bl_bd (ai - bl bi ai) bj
  have L1 := fun w => less_any bi ai w hbi
  have L2 := fun w => less_any ai bi w hai
  have L3 := fun w => less_any aj (bi - bl ai bi) w haj
  have L4 := fun w => less_any bj (ai - bl bi ai) w hbj
  obtain ⟨hai1, hai2⟩ := hai
  obtain ⟨haj1, haj2⟩ := haj
  obtain ⟨hbi1, hbi2⟩ := hbi
  obtain ⟨hbj1, hbj2⟩ := hbj
  obtain ⟨x, hx⟩ : ∃ x, x = aj - bl (bi - bl ai bi) aj := ⟨_, rfl⟩
  obtain ⟨y, hy⟩ : ∃ y, y = bj - bl (ai - bl bi ai) bj := ⟨_, rfl⟩
  obtain ⟨g, hg⟩ : ∃ g, g = bi - bl ai bi := ⟨_, rfl⟩
  obtain ⟨q, hq⟩ : ∃ q, q = ai - bl bi ai := ⟨_, rfl⟩
  rw [← hg] at L1 L3 hx
  rw [← hq] at L2 L4 hy
  rw [← hx] at L3
  rw [← hy] at L4
  have hxb : -1099511627777 ≤ x ∧ x ≤ 1099511627776 := by rw [← hg] at b3; omega
  have hyb : -1099511627777 ≤ y ∧ y ≤ 1099511627776 := by rw [← hq] at b4; omega
  have HL1 := hid L1
  have HL2 := hid L2
  have HL3 := hid L3
  have HL4 := hid L4
  have HX := hid hx
  have HY := hid hy
  have HG := hid hg
  have HQ := hid hq
  clear hA L1 L2 L3 L4 hx hy hg hq b1 b2 b3 b4
  by_cases he : ai = bi
  · subst he
    cases left
    · go_enter Tryd.func63, Tryd.ntmps63
      go_wp2_with (first | (go_at_call 88; refine (HL1.out _).mono ?_; rintro e w' ⟨rfl, rfl⟩))
      go_ret
      exact comp_none _ _ _ _ _ _ _ _ _ _ (by simp [moveL]; done) HE1.out
    · go_enter Tryd.func63, Tryd.ntmps63
      go_wp2_with (first | (go_at_call 88; refine (HL1.out _).mono ?_; rintro e w' ⟨rfl, rfl⟩))
      go_ret
      refine comp_some _ _ _ _ _ _ _ _ _ _ (by simp [moveL]; done) (by simp) (((Keep.refl _ _).alloc _).alloc _)
  · have he' : (ai == bi) = false := by simpa using he
    have HNE := hid he
    clear he
    rcases tri y x with ⟨t1, t2, t4⟩ | rfl | ⟨t1, t2, t4, t3⟩
    all_goals
      cases left
      all_goals
        go_enter Tryd.func63, Tryd.ntmps63
        go_wp2_with fail
        refine (HL1.out _).mono ?_
        rintro e w' ⟨rfl, rfl⟩
        go_wp2_with fail
        refine (HL2.out _).mono ?_
        rintro e w' ⟨rfl, rfl⟩
        go_wp2_with fail
        refine (HL3.out _).mono ?_
        rintro e w' ⟨rfl, rfl⟩
        go_wp2_with fail
        refine (HL4.out _).mono ?_
        rintro e w' ⟨rfl, rfl⟩
        go_wp2_with fail
        refine (HAT.out _).mono ?_
        rintro e w2 ⟨rfl, hT2⟩
        have hA2 := HA.out.keep hT2 id
        have HT2 := hid hT2
        have qa0 := hA2.cell 0
        have qa1 := hA2.cell 1
        have qa2 := hA2.cell 2
        have qa3 := hA2.cell 3
        have qa4 := hA2.cell 4
        have qa5 := hA2.cell 5
        have qa6 := hA2.cell 6
        have qa7 := hA2.cell 7
        have qa8 := hA2.cell 8
        have qa9 := hA2.cell 9
        have qa10 := hA2.cell 10
        have qa11 := hA2.cell 11
        simp at qa0 qa1 qa2 qa3 qa4 qa5 qa6 qa7 qa8 qa9 qa10 qa11
        have f3 := hA2.frozen 3
        have f4 := hA2.frozen 4
        clear hA2 hT2
        go_wp2_with fail
        go_ret
        refine comp_some _ _ _ _ _ _ _ _ _ _ (by first | (simp [moveL, targetL, ← HG.out, ← HQ.out, ← HX.out, ← HY.out, HNE.out]; done) | (simp [moveL, targetL, ← HG.out, ← HQ.out, ← HX.out, ← HY.out, HNE.out, up_eq]; done) | (simp [moveL, targetL, ← HG.out, ← HQ.out, ← HX.out, ← HY.out, HNE.out, up_lt t1]; done) | (simp [moveL, targetL, ← HG.out, ← HQ.out, ← HX.out, ← HY.out, HNE.out, up_gt t1]; done)) (by simp) (ext_own (HE1.out.ext HT2.out) (Nat.le_refl _) (((Keep.refl (· = w.heap.size) _).set1 3 _).set1 4 _))
end Go.Proofs.YtioplgfopillnaaDoor

/- The reference of chapter 05: move (kind x). -/
set_option linter.unusedSimpArgs false
set_option linter.unusedVariables false
namespace Go.Proofs.YtioplgfopillnaaDoor
open Go.RowKit

set_option maxHeartbeats 12800000 in
theorem rmove_x (bk : UInt8) (h0 : knownL bk = false) (h4 : ((bk.toNat : Int) == 4) = false) (h5 : ((bk.toNat : Int) == 5) = false) (h6 : ((bk.toNat : Int) == 6) = false) (h7 : ((bk.toNat : Int) == 7) = false) (ak : UInt8) (ap akey ann a0 a1 a2 a3 a4 as_ p key nn v0 v1 v2 v3 v4 s : Value) (ai aj bi bj : Int) (left : Bool) (w : World) (hai : Sm ai) (haj : Sm aj) (hbi : Sm bi) (hbj : Sm bj) :
    Calls Tryd.prog 63 #[cmpV (U8 ak) ap akey ai aj ann a0 a1 a2 a3 a4 as_, cmpV (U8 bk) p key bi bj nn v0 v1 v2 v3 v4 s, .bool left] w (CompIs (U8 ak) ap akey ann a0 a1 a2 a3 a4 as_ w (moveL ai aj bk bi bj left)) := by
  have hA : Blk ((w.alloc (.cells (aC ak ai aj ap akey ann a0 a1 a2 a3 a4 as_) 33)).alloc (.cells (aC bk bi bj p key nn v0 v1 v2 v3 v4 s) 33)) w.heap.size 33 (aC ak ai aj ap akey ann a0 a1 a2 a3 a4 as_) := (Blk.new _ _ _).alloc _
  have HA := hid hA
  have HE1 := hid (show Ext w ((w.alloc (.cells (aC ak ai aj ap akey ann a0 a1 a2 a3 a4 as_) 33)).alloc (.cells (aC bk bi bj p key nn v0 v1 v2 v3 v4 s) 33)) from ((Keep.refl _ _).alloc _).alloc _)
  have HAT := hid (fun w => rat_any bk p key nn v0 v1 v2 v3 v4 s bi bj ai w hai hbi hbj)
  have b1 := bl_bd ai bi
  have b2 := bl_bd bi ai
  have b3 := bl_bd (bi - bl ai bi) aj
  have b4 := bl_bd (ai - bl bi ai) bj
  have L1 := fun w => less_any bi ai w hbi
  have L2 := fun w => less_any ai bi w hai
  have L3 := fun w => less_any aj (bi - bl ai bi) w haj
  have L4 := fun w => less_any bj (ai - bl bi ai) w hbj
  obtain ⟨hai1, hai2⟩ := hai
  obtain ⟨haj1, haj2⟩ := haj
  obtain ⟨hbi1, hbi2⟩ := hbi
  obtain ⟨hbj1, hbj2⟩ := hbj
  obtain ⟨x, hx⟩ : ∃ x, x = aj - bl (bi - bl ai bi) aj := ⟨_, rfl⟩
  obtain ⟨y, hy⟩ : ∃ y, y = bj - bl (ai - bl bi ai) bj := ⟨_, rfl⟩
  obtain ⟨g, hg⟩ : ∃ g, g = bi - bl ai bi := ⟨_, rfl⟩
  obtain ⟨q, hq⟩ : ∃ q, q = ai - bl bi ai := ⟨_, rfl⟩
  rw [← hg] at L1 L3 hx
  rw [← hq] at L2 L4 hy
  rw [← hx] at L3
  rw [← hy] at L4
  have hxb : -1099511627777 ≤ x ∧ x ≤ 1099511627776 := by rw [← hg] at b3; omega
  have hyb : -1099511627777 ≤ y ∧ y ≤ 1099511627776 := by rw [← hq] at b4; omega
  have HL1 := hid L1
  have HL2 := hid L2
  have HL3 := hid L3
  have HL4 := hid L4
  have HX := hid hx
  have HY := hid hy
  have HG := hid hg
  have HQ := hid hq
  clear hA L1 L2 L3 L4 hx hy hg hq b1 b2 b3 b4
  have HK := hid (show bk ≠ 4 ∧ bk ≠ 5 ∧ bk ≠ 6 ∧ bk ≠ 7 from by simp [knownL] at h0; exact ⟨h0.1.1.1, h0.1.1.2, h0.1.2, h0.2⟩)
  go_enter Tryd.func63, Tryd.ntmps63
  go_wp2_with (first
            | (go_at_call 88; refine (HL1.out _).mono ?_; rintro e w' ⟨rfl, rfl⟩)
            | (go_at_call 88; refine (HL2.out _).mono ?_; rintro e w' ⟨rfl, rfl⟩)
            | (go_at_call 88; refine (HL3.out _).mono ?_; rintro e w' ⟨rfl, rfl⟩)
            | (go_at_call 88; refine (HL4.out _).mono ?_; rintro e w' ⟨rfl, rfl⟩)
            | (go_at_call 60; refine (HAT.out _).mono ?_; rintro e w2 ⟨rfl, hT2⟩; have hA2 := HA.out.keep hT2 id; have HT2 := hid hT2;
               have qa0 := hA2.cell 0; have qa1 := hA2.cell 1; have qa2 := hA2.cell 2; have qa3 := hA2.cell 3; have qa4 := hA2.cell 4; have qa5 := hA2.cell 5; have qa6 := hA2.cell 6; have qa7 := hA2.cell 7; have qa8 := hA2.cell 8; have qa9 := hA2.cell 9; have qa10 := hA2.cell 10; have qa11 := hA2.cell 11;
               have f3 := hA2.frozen 3; have f4 := hA2.frozen 4;
               simp at qa0 qa1 qa2 qa3 qa4 qa5 qa6 qa7 qa8 qa9 qa10 qa11; clear hA2 hT2))
  go_ret
  obtain ⟨k4, k5, k6, k7⟩ := HK.out
  refine comp_some _ _ _ _ _ _ _ _ _ _ (by simp [moveL, targetL, k4, k5, k6, k7]; done) (by simp) (ext_own (HE1.out.ext HT2.out) (Nat.le_refl _) (((Keep.refl (· = w.heap.size) _).set1 3 _).set1 4 _))
end Go.Proofs.YtioplgfopillnaaDoor

/- The reference of chapter 05: Turn. -/
set_option linter.unusedSimpArgs false
set_option linter.unusedVariables false
namespace Go.Proofs.YtioplgfopillnaaDoor
open Go.RowKit

theorem rmove_any (ak bk : UInt8) (ap akey ann a0 a1 a2 a3 a4 as_ p key nn v0 v1 v2 v3 v4 s : Value) (ai aj bi bj : Int) (left : Bool) (w : World) (hai : Sm ai) (haj : Sm aj) (hbi : Sm bi) (hbj : Sm bj) :
    Calls Tryd.prog 63 #[cmpV (U8 ak) ap akey ai aj ann a0 a1 a2 a3 a4 as_, cmpV (U8 bk) p key bi bj nn v0 v1 v2 v3 v4 s, .bool left] w (CompIs (U8 ak) ap akey ann a0 a1 a2 a3 a4 as_ w (moveL ai aj bk bi bj left)) := by
  rcases kind_cases bk with rfl | rfl | rfl | rfl | ⟨h0, h4, h5, h6, h7⟩
  · exact rmove_4 _ _ _ _ _ _ _ _ _ _ _ _ _ _ _ _ _ _ _ _ _ _ _ _ _ hai haj hbi hbj
  · exact rmove_5 _ _ _ _ _ _ _ _ _ _ _ _ _ _ _ _ _ _ _ _ _ _ _ _ _ hai haj hbi hbj
  · exact rmove_6 _ _ _ _ _ _ _ _ _ _ _ _ _ _ _ _ _ _ _ _ _ _ _ _ _ hai haj hbi hbj
  · exact rmove_7 _ _ _ _ _ _ _ _ _ _ _ _ _ _ _ _ _ _ _ _ _ _ _ _ _ hai haj hbi hbj
  · exact rmove_x bk h0 h4 h5 h6 h7 _ _ _ _ _ _ _ _ _ _ _ _ _ _ _ _ _ _ _ _ _ _ _ _ _ hai haj hbi hbj

set_option maxHeartbeats 6400000 in
theorem rturn_any (ak bk : UInt8) (ap akey ann a0 a1 a2 a3 a4 as_ p key nn v0 v1 v2 v3 v4 s : Value) (ai aj bi bj : Int) (left : Bool) (w : World) (hai : Sm ai) (haj : Sm aj) (hbi : Sm bi) (hbj : Sm bj) :
    Calls Tryd.prog 34 #[cmpV (U8 ak) ap akey ai aj ann a0 a1 a2 a3 a4 as_, cmpV (U8 bk) p key bi bj nn v0 v1 v2 v3 v4 s, .bool left] w (CompIs (U8 ak) ap akey ann a0 a1 a2 a3 a4 as_ w (turnL ak ai aj bk bi bj left)) := by
  have hA : Blk ((w.alloc (.cells #[U8 ak, ap, akey, .int .i64 ai, .int .i64 aj, ann, a0, a1, a2, a3, a4, as_] 33)).alloc (.cells #[U8 bk, p, key, .int .i64 bi, .int .i64 bj, nn, v0, v1, v2, v3, v4, s] 33)) w.heap.size 33 #[U8 ak, ap, akey, .int .i64 ai, .int .i64 aj, ann, a0, a1, a2, a3, a4, as_] := (Blk.new _ _ _).alloc _
  have hB : Blk ((w.alloc (.cells #[U8 ak, ap, akey, .int .i64 ai, .int .i64 aj, ann, a0, a1, a2, a3, a4, as_] 33)).alloc (.cells #[U8 bk, p, key, .int .i64 bi, .int .i64 bj, nn, v0, v1, v2, v3, v4, s] 33)) (w.heap.size + 1) 33 #[U8 bk, p, key, .int .i64 bi, .int .i64 bj, nn, v0, v1, v2, v3, v4, s] := by
    have := Blk.new (w.alloc (.cells #[U8 ak, ap, akey, .int .i64 ai, .int .i64 aj, ann, a0, a1, a2, a3, a4, as_] 33)) 33 #[U8 bk, p, key, .int .i64 bi, .int .i64 bj, nn, v0, v1, v2, v3, v4, s]
    rwa [World.size_alloc] at this
  have hE1 : Ext w ((w.alloc (.cells #[U8 ak, ap, akey, .int .i64 ai, .int .i64 aj, ann, a0, a1, a2, a3, a4, as_] 33)).alloc (.cells #[U8 bk, p, key, .int .i64 bi, .int .i64 bj, nn, v0, v1, v2, v3, v4, s] 33)) := ((Keep.refl _ _).alloc _).alloc _
  have HA := hid hA
  have HB := hid hB
  have HT := hid hE1
  have HSA := hid hai
  have HSAJ := hid haj
  have HSB := hid hbi
  have HSBJ := hid hbj
  clear hA hB hE1 hai haj hbi hbj
  have htw : (∃ h : ai = bi, bk = 6) ∨ (∃ h : ai = bi, ((bk.toNat : Int) == 6) = false ∧ bk ≠ 6) ∨ ((ai == bi) = false ∧ ai ≠ bi) := by
    by_cases h : ai = bi
    · by_cases h6 : bk = 6
      · exact .inl ⟨h, h6⟩
      · refine .inr (.inl ⟨h, ?_, h6⟩)
        simp only [beq_eq_false_iff_ne, ne_eq]
        intro e
        apply h6
        apply UInt8.toNat.inj
        simp; omega
    · exact .inr (.inr ⟨by simpa using h, h⟩)
  have he2 : (bi == bi) = true := by simp
  have HTW := hid (show (ai = bi ∧ bk = 6) ∨ ¬(ai = bi ∧ bk = 6) from Classical.em _)
  rcases htw with ⟨rfl, rfl⟩ | ⟨rfl, hne6, hn6⟩ | ⟨hne, hnn⟩
  all_goals
    rcases kind_cases ak with rfl | rfl | rfl | rfl | ⟨h0, h4, h5, h6, h7⟩
    all_goals
      go_enter Tryd.func34, Tryd.ntmps34
      go_wp2_with (first
        | (go_at_call 61; refine (rknown_any _ _ _ _ _ _ _ _ _ _ _ _ _).mono ?_; rintro e w1 ⟨rfl, hT⟩; have hA1 := HA.out.keep hT id; have HA1 := hid hA1; have hB1 := HB.out.keep hT id; have HB1 := hid hB1; have qa0 := hA1.cell 0; have qa1 := hA1.cell 1; have qa2 := hA1.cell 2; have qa3 := hA1.cell 3; have qa4 := hA1.cell 4; have qa5 := hA1.cell 5; have qa6 := hA1.cell 6; have qa7 := hA1.cell 7; have qa8 := hA1.cell 8; have qa9 := hA1.cell 9; have qa10 := hA1.cell 10; have qa11 := hA1.cell 11; have qb0 := hB1.cell 0; have qb1 := hB1.cell 1; have qb2 := hB1.cell 2; have qb3 := hB1.cell 3; have qb4 := hB1.cell 4; have qb5 := hB1.cell 5; have qb6 := hB1.cell 6; have qb7 := hB1.cell 7; have qb8 := hB1.cell 8; have qb9 := hB1.cell 9; have qb10 := hB1.cell 10; have qb11 := hB1.cell 11; have f3 := hA1.frozen 3; simp at qa0 qa1 qa2 qa3 qa4 qa5 qa6 qa7 qa8 qa9 qa10 qa11 qb0 qb1 qb2 qb3 qb4 qb5 qb6 qb7 qb8 qb9 qb10 qb11; have HT1 := hid (HT.out.ext hT); clear hT hA1)
        | (go_at_call 61; refine (rknown_any _ _ _ _ _ _ _ _ _ _ _ _ _).mono ?_; rintro e w2 ⟨rfl, hT⟩; have hA2 := HA1.out.keep hT id; have HA2 := hid hA2; have hB2 := HB1.out.keep hT id; have HB2 := hid hB2; have qa0 := hA2.cell 0; have qa1 := hA2.cell 1; have qa2 := hA2.cell 2; have qa3 := hA2.cell 3; have qa4 := hA2.cell 4; have qa5 := hA2.cell 5; have qa6 := hA2.cell 6; have qa7 := hA2.cell 7; have qa8 := hA2.cell 8; have qa9 := hA2.cell 9; have qa10 := hA2.cell 10; have qa11 := hA2.cell 11; have qb0 := hB2.cell 0; have qb1 := hB2.cell 1; have qb2 := hB2.cell 2; have qb3 := hB2.cell 3; have qb4 := hB2.cell 4; have qb5 := hB2.cell 5; have qb6 := hB2.cell 6; have qb7 := hB2.cell 7; have qb8 := hB2.cell 8; have qb9 := hB2.cell 9; have qb10 := hB2.cell 10; have qb11 := hB2.cell 11; have f3 := hA2.frozen 3; simp at qa0 qa1 qa2 qa3 qa4 qa5 qa6 qa7 qa8 qa9 qa10 qa11 qb0 qb1 qb2 qb3 qb4 qb5 qb6 qb7 qb8 qb9 qb10 qb11; have HT2 := hid (HT1.out.ext hT); clear hT hA2)
        | (go_at_call 62; refine (rins_any _ _ _ _ _ _ _ _ _ _ _ _ _ _ _ _ _ _ _ _ _ _ _ _ _ _ HSA.out HSAJ.out HSB.out HSBJ.out).mono ?_; rintro e w3 ⟨v, rfl, hT, hO⟩; have HO := hid (show CompIs _ _ _ _ _ _ _ _ _ _ _ _ _ _ from ⟨v, rfl, hT, hO⟩); clear hT hO)
        | (go_at_call 60; refine (rat_any _ _ _ _ _ _ _ _ _ _ _ _ _ _ HSA.out HSB.out HSBJ.out).mono ?_; rintro e w3 ⟨rfl, hT⟩; have hA3 := HA2.out.keep hT id; have HA3 := hid hA3; have qa0 := hA3.cell 0; have qa1 := hA3.cell 1; have qa2 := hA3.cell 2; have qa3 := hA3.cell 3; have qa4 := hA3.cell 4; have qa5 := hA3.cell 5; have qa6 := hA3.cell 6; have qa7 := hA3.cell 7; have qa8 := hA3.cell 8; have qa9 := hA3.cell 9; have qa10 := hA3.cell 10; have qa11 := hA3.cell 11; have f3 := hA3.frozen 3; simp at qa0 qa1 qa2 qa3 qa4 qa5 qa6 qa7 qa8 qa9 qa10 qa11; have HT3 := hid (HT2.out.ext hT); clear hT hA3)
        | (go_at_call 63; refine (rmove_any _ _ _ _ _ _ _ _ _ _ _ _ _ _ _ _ _ _ _ _ _ _ _ _ _ _ HSA.out HSAJ.out HSB.out HSBJ.out).mono ?_; rintro e w3 ⟨v, rfl, hT, hO⟩; have HO := hid (show CompIs _ _ _ _ _ _ _ _ _ _ _ _ _ _ from ⟨v, rfl, hT, hO⟩); clear hT hO))
    all_goals
      go_ret
      first
        | exact comp_some _ _ _ _ _ _ _ _ _ _ (tL1 h0) rfl HT1.out
        | exact comp_some _ _ _ _ _ _ _ _ _ _ (tL2 (by assumption)) rfl HT2.out
        | exact (HO.out.from_ HT2.out).eq_ (tL3 (by assumption))
        | exact (HO.out.from_ HT2.out).eq_ (tL4 (by assumption))
        | exact comp_some _ _ _ _ _ _ _ _ _ _ tL5 rfl HT2.out
        | exact comp_some _ _ _ _ _ _ _ _ _ _ (tL6 (by assumption)) rfl HT2.out
        | exact comp_none _ _ _ _ _ _ _ _ _ _ (tL7 (by assumption)) HT2.out
        | exact comp_some _ _ _ _ _ _ _ _ _ _ (tL8 (by first | exact .inl rfl | exact .inr rfl) (by first | exact fun h => hn6 h.2 | exact fun h => hnn h.1) (by assumption) (by assumption)) (by simp) (ext_own HT3.out (Nat.le_refl _) ((Keep.refl (· = w.heap.size) _).set1 3 _))
        | exact comp_none _ _ _ _ _ _ _ _ _ _ (tL9 (by first | exact .inl rfl | exact .inr rfl) (by first | exact fun h => hn6 h.2 | exact fun h => hnn h.1) (by assumption) (by assumption)) HT3.out
end Go.Proofs.YtioplgfopillnaaDoor

/-
  DERIVED: THE SHELF's CONTRACTS AT THIS DUMP, IN PLAIN WORDS (tools/lay-plain.mjs out of 'YtioplgfopillnaaDoorLayDRRaw.lean', which tools/lay-shelf.mjs wrote): THE SAME DECLARATIONS UNDER THE SAME NAMES: 'import', 'namespace', 'open', 'def', 'theorem' AND NOTHING ELSE: no command of the shelf's: FOR A HAND-IN. Each laying: the table of numbers ('.._ren') and one theorem, a field a fact of the dump's own or the kernel's comparison; each contract: ONE APPLICATION.
-/
namespace Go.Proofs
open Go.Shelf
def Tryd.laysDR_ren : Go.Shelf.Ren := ⟨fun | 197 => 96 | 260 => 103 | n => n, fun | 9 => 9 | 21 => 21 | 3 => 3 | 4 => 4 | 5 => 5 | 105 => 111 | 119 => 120 | 0 => 0 | 46 => 124 | 139 => 123 | 138 => 122 | n => n, fun | 3 => 0 | 4 => 1 | n => n⟩
theorem Tryd.laysDR : Go.Proofs.Lays.n197 Tryd.prog Tryd.laysDR_ren := {
  mixed := by kernel_rfl
  f197 := Tryd.func96.trans (congrArg some (by kernel_rfl))
  f260 := Tryd.func103.trans (congrArg some (by kernel_rfl))
  t0 := Tryd.underlying0
  a0 := Tryd.isAgg0
  z0 := Tryd.sizeOf0
  v0 := Tryd.zeroValue0
  t3 := Tryd.underlying3
  a3 := Tryd.isAgg3
  z3 := Tryd.sizeOf3
  v3 := Tryd.zeroValue3
  t4 := Tryd.underlying4
  a4 := Tryd.isAgg4
  z4 := Tryd.sizeOf4
  v4 := Tryd.zeroValue4
  t5 := Tryd.underlying5
  a5 := Tryd.isAgg5
  z5 := Tryd.sizeOf5
  v5 := Tryd.zeroValue5
  t9 := Tryd.underlying9
  a9 := Tryd.isAgg9
  z9 := Tryd.sizeOf9
  v9 := Tryd.zeroValue9
  t21 := Tryd.underlying21
  a21 := Tryd.isAgg21
  z21 := Tryd.sizeOf21
  v21 := Tryd.zeroValue21
  t46 := Tryd.underlying124
  a46 := Tryd.isAgg124
  z46 := Tryd.sizeOf124
  v46 := Tryd.zeroValue124
  t105 := Tryd.underlying111
  a105 := Tryd.isAgg111
  z105 := Tryd.sizeOf111
  v105 := Tryd.zeroValue111
  t119 := Tryd.underlying120
  a119 := Tryd.isAgg120
  z119 := Tryd.sizeOf120
  t138 := Tryd.underlying122
  a138 := Tryd.isAgg122
  z138 := Tryd.sizeOf122
  v138 := Tryd.zeroValue122
  t139 := Tryd.underlying123
  a139 := Tryd.isAgg123
  z139 := Tryd.sizeOf123
  v139 := Tryd.zeroValue123
  g3 := by kernel_rfl
  g4 := by kernel_rfl }
end Go.Proofs

/- From the readings of arguments to the words of the walks. -/
set_option linter.unusedSimpArgs false
set_option linter.unusedVariables false
namespace Go.Proofs.YtioplgfopillnaaDoor
open Go.ChangeShapes Go.WideShapes Go.ChangeAt Go.RowKit

section
variable {H : Type} {enc : TypeId × Value → H} {P : Program} {W : World}

theorem add_cell {x : Addr} {i : Nat} (hx : x.spot = none) : x.add i = ⟨x.block, x.off + i, none⟩ := by
  cases x; simp at hx; subst hx
  unfold Addr.add
  split <;> simp_all

theorem spot_of_cell {x : Addr} {v : Value} (h : W.cell? x = some v) : x.spot = none := by
  unfold World.cell? at h
  split at h
  · split at h
    · cases h
    · rename_i hs; simpa using hs
  · cases h

theorem u8_of_wf {n : Int} (h : (Lit.int .u8 n).wf = true) : ∃ c : UInt8, n = (c.toNat : Int) := by
  have h1 : 0 ≤ n ∧ n ≤ 255 := by
    simp [Lit.wf, IntKind.has, IntKind.min, IntKind.max, IntKind.signed, IntKind.bits] at h
    omega
  refine ⟨UInt8.ofNat n.toNat, ?_⟩
  rw [UInt8.toNat_ofNat_of_lt' (by simp [UInt8.size]; omega)]
  omega

end
end Go.Proofs.YtioplgfopillnaaDoor

/- From the readings of arguments to slices of structs. -/
set_option linter.unusedSimpArgs false
set_option linter.unusedVariables false
namespace Go.Proofs.YtioplgfopillnaaDoor
open Go.ChangeShapes Go.WideShapes Go.ChangeAt Go.RowKit Go.Deep

/-- A row read one element after the other. -/
theorem cells_build {α : Type} {E : El α} (hE : E.Ok) {w : World} {S : BS} {b off : Nat} : ∀ (n : Nat), (∀ i, i < n → ∃ (x : α) (c0 : List Value), E.rd w S c0 x ∧ ∀ j u, c0[j]? = some u → w.cell? ⟨b, off + (i * E.size + j), none⟩ = some u) →
    ∃ (l : List α) (cs : List Value), l.length = n ∧ Cells E w S cs l ∧ ∀ k u, cs[k]? = some u → w.cell? ⟨b, off + k, none⟩ = some u
  | 0, _ => ⟨[], [], rfl, rfl, fun k u h => by simp at h⟩
  | n + 1, h => by
    obtain ⟨l, cs, hl, hc, hk⟩ := cells_build hE n fun i hi => h i (by omega)
    obtain ⟨x, c0, hx, h0⟩ := h n (by omega)
    refine ⟨l ++ [x], cs ++ c0, by simp [hl], hc.append (Cells.single hx), fun k u hu => ?_⟩
    have hcl := hc.len hE
    rcases Nat.lt_or_ge k cs.length with h1 | h1
    · rw [List.getElem?_append_left h1] at hu; exact hk k u hu
    · rw [List.getElem?_append_right h1] at hu
      have := h0 _ u hu
      rwa [show n * E.size + (k - cs.length) = k from by rw [hcl, hl] at h1 ⊢; omega] at this

section
variable {H : Type} {enc : TypeId × Value → H} {P : Program} {W : World}
end
end Go.Proofs.YtioplgfopillnaaDoor

/- Arguments of any shape, opened: kinds of elements, built of one another; what comes in is no longer than a process's memory. No program. -/
set_option linter.unusedSimpArgs false
set_option linter.unusedVariables false
namespace Go.Proofs.YtioplgfopillnaaDoor
open Go.ChangeShapes Go.WideShapes Go.ChangeAt Go.RowKit Go.Deep

/-! ### Kinds of elements -/
def EInt (k : IntKind) : El Int := { size := 1, rd := fun _ _ cs x => cs = [.int k x] }
theorem EInt.ok (k : IntKind) : (EInt k).Ok where
  pos := by show 0 < 1; decide
  len := fun h => by have h := h; subst h; rfl
  one := fun h u hu => by subst h; simp at hu; subst hu; rfl
  keep := fun h _ _ => h
  more := fun h _ => h
def EBool : El Bool := { size := 1, rd := fun _ _ cs x => cs = [.bool x] }
theorem EBool.ok : EBool.Ok where
  pos := by decide
  len := fun h => by subst h; rfl
  one := fun h u hu => by subst h; simp at hu; subst hu; rfl
  keep := fun h _ _ => h
  more := fun h _ => h
def EStr : El ByteArray := { size := 1, rd := fun _ _ cs x => cs = [.string x] }
theorem EStr.ok : EStr.Ok where
  pos := by decide
  len := fun h => by subst h; rfl
  one := fun h u hu => by subst h; simp at hu; subst hu; rfl
  keep := fun h _ _ => h
  more := fun h _ => h
def EPair {α β : Type} (E : El α) (F : El β) : El (α × β) := { size := E.size + F.size, rd := fun w S cs x => ∃ c1 c2, cs = c1 ++ c2 ∧ E.rd w S c1 x.1 ∧ F.rd w S c2 x.2 }
theorem EPair.ok {α β : Type} {E : El α} {F : El β} (hE : E.Ok) (hF : F.Ok) : (EPair E F).Ok where
  pos := by show 0 < E.size + F.size; have := hE.pos; omega
  len := fun ⟨c1, c2, h, h1, h2⟩ => by subst h; rw [List.length_append, hE.len h1, hF.len h2]; rfl
  one := fun ⟨c1, c2, h, h1, h2⟩ u hu => by
    subst h
    rcases List.mem_append.1 hu with hu | hu
    · exact hE.one h1 u hu
    · exact hF.one h2 u hu
  keep := fun ⟨c1, c2, h, h1, h2⟩ hk hF' => ⟨c1, c2, h, hE.keep h1 hk hF', hF.keep h2 hk hF'⟩
  more := fun ⟨c1, c2, h, h1, h2⟩ hS => ⟨c1, c2, h, hE.more h1 hS, hF.more h2 hS⟩

section
variable {H : Type} {enc : TypeId × Value → H} {P : Program} {W : World} {spare : Nat → Bool} {held : Bool}

/-- No part of it takes more bytes than a process has. -/
def Fits (P : Program) (t : TypeId) (d : DataW H) : Prop := ∀ n ∈ d.weights P t, n ≤ reachBytes
theorem weightsAll_mem {e : TypeId} {n : Nat} : ∀ {ds : List (DataW H)} {d : DataW H}, d ∈ ds → n ∈ d.weights P e → n ∈ DataW.weightsAll P e ds
  | d :: r, x, hx, hn => by
    rw [DataW.weightsAll]
    rcases List.mem_cons.1 hx with rfl | hx
    · exact List.mem_append_left _ hn
    · exact List.mem_append_right _ (weightsAll_mem hx hn)
theorem weightsEach_mem {n : Nat} : ∀ {ts : List TypeId} {ds : List (DataW H)} {i : Nat} {t : TypeId} {d : DataW H}, ts[i]? = some t → ds[i]? = some d → n ∈ d.weights P t → n ∈ DataW.weightsEach P ts ds
  | t :: ts, d :: ds, 0, t', d', ht, hd, hn => by
    simp at ht hd; subst ht hd
    rw [DataW.weightsEach]; exact List.mem_append_left _ hn
  | t :: ts, d :: ds, i + 1, t', d', ht, hd, hn => by
    rw [DataW.weightsEach]; exact List.mem_append_right _ (weightsEach_mem (by simpa using ht) (by simpa using hd) hn)
/-- .. of one of the arguments. -/
theorem Fits.of_all {ts : List TypeId} {ds : List (DataW H)} (h : (DataW.weightsEach P ts ds).all (· ≤ reachBytes) = true) {i : Nat} {t : TypeId} {d : DataW H} (ht : ts[i]? = some t) (hd : ds[i]? = some d) : Fits P t d := fun n hn => by
  have := List.all_eq_true.1 h n (weightsEach_mem ht hd hn)
  simpa using this

/-- Cells of type t read as a datum of kind E, of which Q is known. -/
structure Opens {α : Type} (E : El α) (enc : TypeId × Value → H) (P : Program) (W : World) (spare : Nat → Bool) (held : Bool) (t : TypeId) (Q : α → Prop) : Prop where
  size : P.cellsOf t = E.size
  op : ∀ (fuel : Nat) (cs : List Value) (y : DataW H × List MemPlace), DataW.trod enc P W 0 spare held fuel t cs = some y → Fits P t y.1 → ∃ x, E.rd W (fun k => k < W.heap.size) cs x ∧ Q x

theorem Opens.map {α β : Type} {E : El α} {F : El β} {t : TypeId} {Q : α → Prop} {R : β → Prop} (h : Opens E enc P W spare held t Q) (hs : F.size = E.size) (f : α → β) (hrd : ∀ w S cs x, E.rd w S cs x → F.rd w S cs (f x)) (hQ : ∀ x, Q x → R (f x)) : Opens F enc P W spare held t R :=
  ⟨h.size.trans hs.symm, fun fuel cs y hy hf => by obtain ⟨x, h1, h2⟩ := h.op fuel cs y hy hf; exact ⟨f x, hrd _ _ _ _ h1, hQ _ h2⟩⟩
theorem opens_int {t : TypeId} {k : IntKind} (ht : P.underlying t = some (.int k)) (hc : P.cellsOf t = 1) : Opens (EInt k) enc P W spare held t (fun x => (Lit.int k x).wf = true) :=
  ⟨hc, fun fuel cs y hy _ => by obtain ⟨n, h1, _, h3⟩ := DataW.trod_int ht hy; exact ⟨n, h1, h3⟩⟩
theorem opens_u8 {t : TypeId} (ht : P.underlying t = some (.int .u8)) (hc : P.cellsOf t = 1) : Opens EU8 enc P W spare held t (fun _ => True) :=
  ⟨hc, fun fuel cs y hy _ => by obtain ⟨n, h1, _, h3⟩ := DataW.trod_int ht hy; obtain ⟨c, rfl⟩ := u8_of_wf h3; exact ⟨c, h1, trivial⟩⟩
theorem opens_bool {t : TypeId} (ht : P.underlying t = some .bool) (hc : P.cellsOf t = 1) : Opens EBool enc P W spare held t (fun _ => True) :=
  ⟨hc, fun fuel cs y hy _ => by obtain ⟨b, h1, _⟩ := DataW.trod_bool ht hy; exact ⟨b, h1, trivial⟩⟩
theorem opens_str {t : TypeId} (ht : P.underlying t = some .string) (hc : P.cellsOf t = 1) : Opens EStr enc P W spare held t (fun s => s.size ≤ reachBytes) :=
  ⟨hc, fun fuel cs y hy hf => by
    obtain ⟨s, h1, h2, _⟩ := DataW.trod_string ht hy
    subst h2
    exact ⟨s, h1, hf s.size (by simp [DataW.weights])⟩⟩
/-- The fields from some place on. -/
def FOp {α : Type} (E : El α) (enc : TypeId × Value → H) (P : Program) (W : World) (spare : Nat → Bool) (held : Bool) (fs : List Field) (off : Nat) (Q : α → Prop) : Prop :=
  ∀ (n : Nat) (cs : List Value) (ys : List (DataW H × List MemPlace)), cs.length = off + E.size → ys.length = fs.length →
    (∀ (i : Nat) (f : Field), fs[i]? = some f → DataW.trod enc P W 0 spare held n f.type ((cs.drop f.offset).take (P.cellsOf f.type)) = ys[i]?) → (∀ (i : Nat) (f : Field) y, fs[i]? = some f → ys[i]? = some y → Fits P f.type y.1) →
    ∃ x, E.rd W (fun k => k < W.heap.size) (cs.drop off) x ∧ Q x
theorem fop_one {α : Type} {E : El α} {f : Field} {off : Nat} {Q : α → Prop} (ho : f.offset = off) (h : Opens E enc P W spare held f.type Q) : FOp E enc P W spare held [f] off Q := by
  intro n cs ys hl hy ht hf
  obtain ⟨y, rfl⟩ : ∃ y, ys = [y] := by
    match ys, hy with
    | [y], _ => exact ⟨y, rfl⟩
  have := ht 0 f rfl
  rw [ho, h.size, List.take_of_length_le (by simp; omega)] at this
  exact h.op n _ y this (hf 0 f y rfl rfl)
theorem fop_cons {α β : Type} {E : El α} {F : El β} {f : Field} {fs : List Field} {off : Nat} {Q : α → Prop} {R : β → Prop} (ho : f.offset = off) (h : Opens E enc P W spare held f.type Q) (hr : FOp F enc P W spare held fs (off + E.size) R) :
    FOp (EPair E F) enc P W spare held (f :: fs) off (fun x => Q x.1 ∧ R x.2) := by
  intro n cs ys hl hy ht hf
  obtain ⟨y, zs, rfl⟩ : ∃ y zs, ys = y :: zs := by
    match ys, hy with
    | y :: zs, _ => exact ⟨y, zs, rfl⟩
  have hl' : cs.length = off + (E.size + F.size) := hl
  have h0 := ht 0 f rfl
  rw [ho, h.size] at h0
  obtain ⟨x1, r1, q1⟩ := h.op n _ y h0 (hf 0 f y rfl rfl)
  obtain ⟨x2, r2, q2⟩ := hr n cs zs (by omega) (by simpa using hy) (fun i g hg => by have := ht (i + 1) g (by simpa using hg); simpa using this) (fun i g z hg hz => hf (i + 1) g z (by simpa using hg) (by simpa using hz))
  refine ⟨(x1, x2), ⟨(cs.drop off).take E.size, cs.drop (off + E.size), ?_, r1, r2⟩, q1, q2⟩
  rw [← List.drop_drop, List.take_append_drop]
theorem opens_struct {α : Type} {E : El α} {t : TypeId} {fs : Array Field} {Q : α → Prop} (ht : P.underlying t = some (.struct fs)) (hc : P.cellsOf t = E.size) (h : FOp E enc P W spare held fs.toList 0 Q) : Opens E enc P W spare held t Q :=
  ⟨hc, fun fuel cs y hy hf => by
    obtain ⟨ys, n, _, hyd, hl, hyl, hfl⟩ := DataW.trod_struct ht hy
    subst hyd
    have hw : ∀ n', n' ∈ DataW.weights P t (DataW.agg (ys.map (·.1))) ↔ n' ∈ DataW.weightsEach P (fs.toList.map (·.type)) (ys.map (·.1)) := fun n' => by rw [DataW.weights, ht]
    have := h n cs ys (by rw [hl, hc]; omega) (by simpa using hyl) (fun i f hi => hfl i f (by simpa using hi)) (fun i f z hi hz n' hn' => hf n' ((hw n').2 (weightsEach_mem (i := i) (by simp [hi]) (by simp [hz]) hn')))
    simpa using this⟩
end
end Go.Proofs.YtioplgfopillnaaDoor
