/- seq: gap and target by contract. -/
import Derived.Test.YtimhfkllamimeaaSeqA
import Derived.Deep.QuietTactic
import Derived.BigQuiet
import Derived.IntWalk
set_option linter.unusedSimpArgs false
set_option linter.unusedVariables false
namespace Go.Proofs.Ytimhfkllamimeaa
open Go.RowKit
set_option linter.unusedVariables false

theorem quiet_add_left {P : Program} {f : FuncId} {args : Array Value} {w : World} {a n : Nat} {v : Value}
    (h : Calls P f args (w.drewN (a + n)) fun e w' => e = .returned v ∧ w.drewN (a + n) = w') :
    Calls P f args (w.drewN (a + n)) fun e w'' => e = .returned v ∧ ∃ m, w'' = w.drewN (a + m) :=
  h.mono fun _ _ ⟨he, hm⟩ => ⟨he, n, hm.symm⟩
theorem quiet_left {P : Program} {f : FuncId} {args : Array Value} {w : World} {n : Nat} {v : Value}
    (h : Calls P f args (w.drewN n) fun e w' => e = .returned v ∧ w.drewN n = w') : Calls P f args (w.drewN n) fun e w'' => e = .returned v ∧ ∃ m, w'' = w.drewN m :=
  h.mono fun _ _ ⟨he, hm⟩ => ⟨he, n, hm.symm⟩
theorem ext_drewN (w : World) (n : Nat) : Ext w (w.drewN n) := by
  induction n with
  | zero => exact Keep.refl _ _
  | succ n ih => exact Keep.drew ih

theorem ext_drewN_of {a w : World} (n : Nat) (h : Ext a w) : Ext a (w.drewN n) := h.ext (ext_drewN w n)

def gapL (k : Int) (bk : UInt8) (bi bj : Int) (left : Bool) : Int :=
  if bk = 4 then k + up bi k (!left)
  else if bk = 5 then k - bl bi k
  else if bk = 7 then (k - bl bi k) + up bj (k - bl bi k) (!left)
  else k
def targetL (ai aj : Int) (bk : UInt8) (bi bj : Int) (left : Bool) : Int :=
  if bk = 4 then aj + up (bi - bl ai bi) aj (!left)
  else if bk = 5 then aj - bl (bi - bl ai bi) aj
  else if bk = 7 then (aj - bl (bi - bl ai bi) aj) + up (bj - bl (ai - bl bi ai) bj) (aj - bl (bi - bl ai bi) aj) (!left)
  else aj

set_option maxHeartbeats 1600000 in
theorem gap_any (bk : UInt8) (p key nn v0 v1 v2 v3 v4 s : Value) (k bi bj : Int) (left : Bool) (w : World) (hk : Sm k) (hbi : Sm bi) (hbj : Sm bj) :
    Calls Try.prog 29 #[.int .i64 k, cmpV (U8 bk) p key bi bj nn v0 v1 v2 v3 v4 s, .bool left] w fun e w' => e = .returned (.int .i64 (gapL k bk bi bj left)) ∧ Ext w w' := by
  obtain ⟨hk1, hk2⟩ := hk
  have hu1 := up_bd bi k (!left)
  have hb1 := bl_bd bi k
  have hu2 := up_bd bj (k - bl bi k) (!left)
  rcases kind_cases bk with rfl | rfl | rfl | rfl | ⟨h0, h4, h5, h6, h7⟩
  case' inr.inr.inr.inr => have HK := hid (show bk ≠ 4 ∧ bk ≠ 5 ∧ bk ≠ 6 ∧ bk ≠ 7 from by simp [knownL] at h0; exact ⟨h0.1.1.1, h0.1.1.2, h0.1.2, h0.2⟩)
  all_goals
    go_enter Try.func29, Try.ntmps29
    go_wp2_with (first | (go_at_call 40; refine (below_any _ _ _).mono ?_; rintro e w' ⟨rfl, rfl⟩) | (go_at_call 39; refine (upto_any _ _ _ _).mono ?_; rintro e w' ⟨rfl, rfl⟩))
    go_ret
    first | (obtain ⟨k4, k5, k6, k7⟩ := HK.out; exact ⟨by simp [gapL, k4, k5, k6, k7], (Keep.refl _ _).alloc _⟩) | exact ⟨by simp [gapL], (Keep.refl _ _).alloc _⟩

set_option maxHeartbeats 3200000 in
theorem target_any (ak : Value) (bk : UInt8) (ap akey ann a0 a1 a2 a3 a4 as_ p key nn v0 v1 v2 v3 v4 s : Value) (ai aj bi bj : Int) (left : Bool) (w : World) (hai : Sm ai) (haj : Sm aj) (hbi : Sm bi) (hbj : Sm bj) :
    Calls Try.prog 44 #[cmpV ak ap akey ai aj ann a0 a1 a2 a3 a4 as_, cmpV (U8 bk) p key bi bj nn v0 v1 v2 v3 v4 s, .bool left] w fun e w' => e = .returned (.int .i64 (targetL ai aj bk bi bj left)) ∧ Ext w w' := by
  obtain ⟨hai1, hai2⟩ := hai
  obtain ⟨haj1, haj2⟩ := haj
  obtain ⟨hbi1, hbi2⟩ := hbi
  obtain ⟨hbj1, hbj2⟩ := hbj
  have hb1 := bl_bd ai bi
  have hb2 := bl_bd bi ai
  have hb3 := bl_bd (bi - bl ai bi) aj
  have hb4 := bl_bd (ai - bl bi ai) bj
  have hu1 := up_bd (bi - bl ai bi) aj (!left)
  have hu2 := up_bd (bj - bl (ai - bl bi ai) bj) (aj - bl (bi - bl ai bi) aj) (!left)
  have e1 : IntKind.i64.wrap (bi - bl ai bi) = bi - bl ai bi := IntWalk.i64_in _ (by omega)
  have e2 : IntKind.i64.wrap (ai - bl bi ai) = ai - bl bi ai := IntWalk.i64_in _ (by omega)
  have e3 : IntKind.i64.wrap (aj - bl (bi - bl ai bi) aj) = aj - bl (bi - bl ai bi) aj := IntWalk.i64_in _ (by omega)
  have e4 : IntKind.i64.wrap (bj - bl (ai - bl bi ai) bj) = bj - bl (ai - bl bi ai) bj := IntWalk.i64_in _ (by omega)
  have e5 : IntKind.i64.wrap (aj + up (bi - bl ai bi) aj (!left)) = aj + up (bi - bl ai bi) aj (!left) := IntWalk.i64_in _ (by omega)
  rcases kind_cases bk with rfl | rfl | rfl | rfl | ⟨h0, h4, h5, h6, h7⟩
  case' inr.inr.inr.inr => have HK := hid (show bk ≠ 4 ∧ bk ≠ 5 ∧ bk ≠ 6 ∧ bk ≠ 7 from by simp [knownL] at h0; exact ⟨h0.1.1.1, h0.1.1.2, h0.1.2, h0.2⟩)
  all_goals
    go_enter Try.func44, Try.ntmps44
    go_wp2_with fail
    go_quiet ((go_at_call 40; exact quiet_left (below_any _ _ _)))
    go_wp2_with (first | (go_at_call 40; refine (below_any _ _ _).mono ?_; rintro e w' ⟨rfl, rfl⟩) | (go_at_call 39; refine (upto_any _ _ _ _).mono ?_; rintro e w' ⟨rfl, rfl⟩))
    all_goals repeat (go_quiet (first | (go_at_call 40; exact quiet_add_left (below_any _ _ _)) | (go_at_call 39; exact quiet_add_left (upto_any _ _ _ _))); go_wp2_with (first | (go_at_call 40; refine (below_any _ _ _).mono ?_; rintro e w' ⟨rfl, rfl⟩) | (go_at_call 39; refine (upto_any _ _ _ _).mono ?_; rintro e w' ⟨rfl, rfl⟩)))
    all_goals go_ret
    all_goals first | (obtain ⟨k4, k5, k6, k7⟩ := HK.out; refine ⟨by simp [targetL, k4, k5, k6, k7], ?_⟩) | refine ⟨by simp [targetL], ?_⟩
  all_goals (repeat refine ext_drewN_of _ ?_); exact ((Keep.refl _ _).alloc _).alloc _
end Go.Proofs.Ytimhfkllamimeaa
