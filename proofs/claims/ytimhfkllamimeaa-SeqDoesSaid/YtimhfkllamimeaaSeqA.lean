/- seq: small functions by contract: known, below, upto, At. -/
import Derived.Test.YtimhfkllamimeaaValA
import Derived.Test.YtimhfkllamimeaaGrowAid
set_option linter.unusedSimpArgs false
set_option linter.unusedVariables false
namespace Go.Proofs.Ytimhfkllamimeaa
open Go.RowKit
set_option linter.unusedVariables false

/-- A component's value; what lies behind the opaque cells does not matter here. -/
abbrev cmpV (k : Value) (p key : Value) (i j : Int) (nn v0 v1 v2 v3 v4 s : Value) : Value := .agg #[k, p, key, .int .i64 i, .int .i64 j, nn, v0, v1, v2, v3, v4, s]
def knownL (k : UInt8) : Bool := k == 4 || k == 5 || k == 6 || k == 7
def bl (a b : Int) : Int := if a < b then 1 else 0
def up (a b : Int) (same : Bool) : Int := if a = b ∧ same = true then 1 else bl a b
theorem bl_bd (a b : Int) : 0 ≤ bl a b ∧ bl a b ≤ 1 := by unfold bl; split <;> omega
theorem up_bd (a b : Int) (s : Bool) : 0 ≤ up a b s ∧ up a b s ≤ 1 := by unfold up; split; omega; exact bl_bd a b

/-- One of the four kinds, or another one. -/
theorem kind_cases (k : UInt8) : k = 4 ∨ k = 5 ∨ k = 6 ∨ k = 7 ∨ (knownL k = false ∧ ((k.toNat : Int) == 4) = false ∧ ((k.toNat : Int) == 5) = false ∧ ((k.toNat : Int) == 6) = false ∧ ((k.toNat : Int) == 7) = false) := by
  by_cases h4 : k = 4
  · exact .inl h4
  by_cases h5 : k = 5
  · exact .inr (.inl h5)
  by_cases h6 : k = 6
  · exact .inr (.inr (.inl h6))
  by_cases h7 : k = 7
  · exact .inr (.inr (.inr (.inl h7)))
  have hn : ∀ n : Nat, n < 256 → k ≠ UInt8.ofNat n → ((k.toNat : Int) == (n : Int)) = false := fun n hn h => by
    simp only [beq_eq_false_iff_ne, ne_eq]
    intro e
    apply h
    apply UInt8.toNat.inj
    simp; omega
  exact .inr (.inr (.inr (.inr ⟨by simp [knownL, h4, h5, h6, h7], hn 4 (by omega) h4, hn 5 (by omega) h5, hn 6 (by omega) h6, hn 7 (by omega) h7⟩)))

set_option maxHeartbeats 800000 in
theorem known_any (k : UInt8) (p key nn v0 v1 v2 v3 v4 s : Value) (i j : Int) (w : World) :
    Calls Try.prog 28 #[cmpV (U8 k) p key i j nn v0 v1 v2 v3 v4 s] w fun e w' => e = .returned (.bool (knownL k)) ∧ Ext w w' := by
  rcases kind_cases k with rfl | rfl | rfl | rfl | ⟨h0, h4, h5, h6, h7⟩
  all_goals
    go_enter Try.func28, Try.ntmps28
    go_wp2
    go_ret
    exact ⟨by first | rfl | (rw [h0]; rfl), (Keep.refl _ _).alloc _⟩
theorem below_any (a b : Int) (w : World) : Calls Try.prog 40 #[.int .i64 a, .int .i64 b] w fun e w' => e = .returned (.int .i64 (bl a b)) ∧ w = w' := by
  unfold bl
  by_cases h : a < b
  all_goals
    go_enter Try.func40, Try.ntmps40
    go_wp2
    go_ret
    exact ⟨by simp [h], rfl⟩
theorem upto_any (a b : Int) (s : Bool) (w : World) : Calls Try.prog 39 #[.int .i64 a, .int .i64 b, .bool s] w fun e w' => e = .returned (.int .i64 (up a b s)) ∧ w = w' := by
  by_cases h : a = b
  · subst h
    have hb : (a == a) = true := by simp
    cases s
    all_goals
      go_enter Try.func39, Try.ntmps39
      go_wp2_with (go_at_call 40; refine (below_any _ _ _).mono ?_; rintro e w' ⟨rfl, rfl⟩)
      go_ret
      exact ⟨by simp [up, bl], rfl⟩
  · have hb : (a == b) = false := by simpa using h
    cases s
    all_goals
      go_enter Try.func39, Try.ntmps39
      go_wp2_with (go_at_call 40; refine (below_any _ _ _).mono ?_; rintro e w' ⟨rfl, rfl⟩)
      go_ret
      exact ⟨by simp [up, h], rfl⟩

/-- Small enough that no sum wraps. -/
def Sm (a : Int) : Prop := -1099511627776 ≤ a ∧ a ≤ 1099511627776

def atL (k : UInt8) (ci cj i : Int) : Int × Bool :=
  if k = 4 then (i + up ci i true, true)
  else if k = 7 ∧ ci = i then (cj, true)
  else if k = 7 then (i - bl ci i + up cj (i - bl ci i) true, true)
  else if (k = 5 ∨ k = 6) ∧ ci = i then (0, false)
  else if k = 5 then (i - bl ci i, true)
  else (i, true)

set_option maxHeartbeats 1600000 in
theorem at_any (k : UInt8) (p key nn v0 v1 v2 v3 v4 s : Value) (ci cj i : Int) (w : World) (hi : Sm i) (hci : Sm ci) (hcj : Sm cj) :
    Calls Try.prog 22 #[.int .i64 i, cmpV (U8 k) p key ci cj nn v0 v1 v2 v3 v4 s] w fun e w' => e = .returned (.tuple #[.int .i64 (atL k ci cj i).1, .bool (atL k ci cj i).2]) ∧ Ext w w' := by
  obtain ⟨hi1, hi2⟩ := hi
  obtain ⟨hci1, hci2⟩ := hci
  obtain ⟨hcj1, hcj2⟩ := hcj
  have hu1 := up_bd ci i true
  have hb1 := bl_bd ci i
  have hu2 := up_bd cj (i - bl ci i) true
  by_cases he : ci = i
  · have he' : (ci == i) = true := by simpa using he
    have he2 : (i == i) = true := by simp
    rcases kind_cases k with rfl | rfl | rfl | rfl | ⟨h0, h4, h5, h6, h7⟩
    case' inr.inr.inr.inr => have HK := hid (show k ≠ 4 ∧ k ≠ 5 ∧ k ≠ 6 ∧ k ≠ 7 from by simp [knownL] at h0; exact ⟨h0.1.1.1, h0.1.1.2, h0.1.2, h0.2⟩)
    all_goals
      subst he
      go_enter Try.func22, Try.ntmps22
      go_wp2_with (first | (go_at_call 40; refine (below_any _ _ _).mono ?_; rintro e w' ⟨rfl, rfl⟩) | (go_at_call 39; refine (upto_any _ _ _ _).mono ?_; rintro e w' ⟨rfl, rfl⟩))
      go_ret2
      first | (obtain ⟨k4, k5, k6, k7⟩ := HK.out; exact ⟨by simp [atL, k4, k5, k6, k7], (Keep.refl _ _).alloc _⟩) | exact ⟨by simp [atL], (Keep.refl _ _).alloc _⟩
  · have he' : (ci == i) = false := by simpa using he
    have HNE := hid he
    clear he
    rcases kind_cases k with rfl | rfl | rfl | rfl | ⟨h0, h4, h5, h6, h7⟩
    case' inr.inr.inr.inr => have HK := hid (show k ≠ 4 ∧ k ≠ 5 ∧ k ≠ 6 ∧ k ≠ 7 from by simp [knownL] at h0; exact ⟨h0.1.1.1, h0.1.1.2, h0.1.2, h0.2⟩)
    all_goals
      go_enter Try.func22, Try.ntmps22
      go_wp2_with (first | (go_at_call 40; refine (below_any _ _ _).mono ?_; rintro e w' ⟨rfl, rfl⟩) | (go_at_call 39; refine (upto_any _ _ _ _).mono ?_; rintro e w' ⟨rfl, rfl⟩))
      go_ret2
      first | (obtain ⟨k4, k5, k6, k7⟩ := HK.out; exact ⟨by simp [atL, HNE.out, k4, k5, k6, k7], (Keep.refl _ _).alloc _⟩) | exact ⟨by simp [atL, HNE.out], (Keep.refl _ _).alloc _⟩
end Go.Proofs.Ytimhfkllamimeaa
