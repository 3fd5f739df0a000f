/- The reference of chapter 05: known, less, At. -/
import Derived.Test.YtimhfkllamimeaaSeqV
set_option linter.unusedSimpArgs false
set_option linter.unusedVariables false
namespace Go.Proofs.Ytimhfkllamimeaa
open Go.RowKit

theorem up_le {a b : Int} (h : a ≤ b) : up a b true = 1 := by unfold up bl; (repeat' split) <;> simp_all <;> omega
theorem up_nle {a b : Int} (h : b < a) : up a b true = 0 := by unfold up bl; (repeat' split) <;> simp_all <;> omega
set_option maxHeartbeats 1600000 in
theorem rknown_any (k : UInt8) (p key nn v0 v1 v2 v3 v4 s : Value) (i j : Int) (w : World) :
    Calls Try.prog 38 #[cmpV (U8 k) p key i j nn v0 v1 v2 v3 v4 s] w fun e w' => e = .returned (.bool (knownL k)) ∧ Ext w w' := by
  rcases kind_cases k with rfl | rfl | rfl | rfl | ⟨h0, h4, h5, h6, h7⟩
  all_goals
    go_enter Try.func38, Try.ntmps38
    go_wp2
    go_ret
    exact ⟨by first | rfl | (rw [h0]; rfl), (Keep.refl _ _).alloc _⟩
theorem less_any (k o : Int) (w : World) (hk : Sm k) : Calls Try.prog 41 #[.int .i64 k, .int .i64 o] w fun e w' => e = .returned (.int .i64 (k - bl o k)) ∧ w = w' := by
  obtain ⟨h1, h2⟩ := hk
  unfold bl
  by_cases h : o < k
  all_goals
    go_enter Try.func41, Try.ntmps41
    go_wp2
    go_ret
    exact ⟨by simp [h], rfl⟩
set_option maxHeartbeats 3200000 in
theorem rat_any (k : UInt8) (p key nn v0 v1 v2 v3 v4 s : Value) (ci cj i : Int) (w : World) (hi : Sm i) (hci : Sm ci) (hcj : Sm cj) :
    Calls Try.prog 23 #[.int .i64 i, cmpV (U8 k) p key ci cj nn v0 v1 v2 v3 v4 s] w fun e w' => e = .returned (.tuple #[.int .i64 (atL k ci cj i).1, .bool (atL k ci cj i).2]) ∧ Ext w w' := by
  have HSM := hid hi
  obtain ⟨hi1, hi2⟩ := hi
  obtain ⟨hci1, hci2⟩ := hci
  obtain ⟨hcj1, hcj2⟩ := hcj
  have hb1 := bl_bd ci i
  by_cases he : ci = i
  · have he2 : (i == i) = true := by simp
    have hl : i ≤ i := Int.le_refl _
    rcases kind_cases k with rfl | rfl | rfl | rfl | ⟨h0, h4, h5, h6, h7⟩
    case' inr.inr.inr.inr => have HK := hid (show k ≠ 4 ∧ k ≠ 5 ∧ k ≠ 6 ∧ k ≠ 7 from by simp [knownL] at h0; exact ⟨h0.1.1.1, h0.1.1.2, h0.1.2, h0.2⟩)
    all_goals
      subst he
      go_enter Try.func23, Try.ntmps23
      go_wp2_with (first | (go_at_call 41; refine (less_any _ _ _ HSM.out).mono ?_; rintro e w' ⟨rfl, rfl⟩))
      go_ret2
      first | (obtain ⟨k4, k5, k6, k7⟩ := HK.out; exact ⟨by simp [atL, k4, k5, k6, k7], (Keep.refl _ _).alloc _⟩) | exact ⟨by simp [atL, up], (Keep.refl _ _).alloc _⟩
  · have he' : (ci == i) = false := by simpa using he
    have HNE := hid he
    clear he
    rcases kind_cases k with rfl | rfl | rfl | rfl | ⟨h0, h4, h5, h6, h7⟩
    case' inr.inr.inr.inr => have HK := hid (show k ≠ 4 ∧ k ≠ 5 ∧ k ≠ 6 ∧ k ≠ 7 from by simp [knownL] at h0; exact ⟨h0.1.1.1, h0.1.1.2, h0.1.2, h0.2⟩)
    case' inl => by_cases hc : ci ≤ i
    case' inr.inr.inr.inl => by_cases hc : cj ≤ i - bl ci i
    all_goals
      go_enter Try.func23, Try.ntmps23
      go_wp2_with (first | (go_at_call 41; refine (less_any _ _ _ HSM.out).mono ?_; rintro e w' ⟨rfl, rfl⟩))
      go_ret2
      first | (obtain ⟨k4, k5, k6, k7⟩ := HK.out; exact ⟨by simp [atL, HNE.out, k4, k5, k6, k7], (Keep.refl _ _).alloc _⟩) | (refine ⟨?_, (Keep.refl _ _).alloc _⟩; have hne := HNE.out; first | (simp [atL, hne]; done) | (simp [atL, hne, up_le hc]; done) | (simp [atL, hne, up_nle (show _ < _ by first | exact hc | omega)]; done))

/-- What 'up' is, where not the equal counts. -/
theorem up_lt {a b : Int} {s : Bool} (h : a < b) : up a b s = 1 := by unfold up bl; rw [if_neg (by omega), if_pos h]
theorem up_gt {a b : Int} {s : Bool} (h : b < a) : up a b s = 0 := by unfold up bl; rw [if_neg (by omega), if_neg (by omega)]
theorem up_eq {a : Int} {s : Bool} : up a a s = if s then 1 else 0 := by cases s <;> simp [up, bl]
theorem tri (a b : Int) : (a < b ∧ (a == b) = false ∧ (b == a) = false) ∨ (a = b) ∨ (b < a ∧ (a == b) = false ∧ (b == a) = false ∧ ¬ a < b) := by
  rcases Int.lt_trichotomy a b with h | h | h
  · exact .inl ⟨h, by simp; omega, by simp; omega⟩
  · exact .inr (.inl h)
  · exact .inr (.inr ⟨h, by simp; omega, by simp; omega, by omega⟩)
abbrev aC (k : UInt8) (i j : Int) (p key nn v0 v1 v2 v3 v4 s : Value) : Array Value := #[U8 k, p, key, .int .i64 i, .int .i64 j, nn, v0, v1, v2, v3, v4, s]

set_option maxHeartbeats 6400000 in
theorem rins_any (ak bk : UInt8) (ap akey ann a0 a1 a2 a3 a4 as_ p key nn v0 v1 v2 v3 v4 s : Value) (ai aj bi bj : Int) (left : Bool) (w : World) (hai : Sm ai) (haj : Sm aj) (hbi : Sm bi) (hbj : Sm bj) :
    Calls Try.prog 42 #[cmpV (U8 ak) ap akey ai aj ann a0 a1 a2 a3 a4 as_, cmpV (U8 bk) p key bi bj nn v0 v1 v2 v3 v4 s, .bool left] w (CompIs (U8 ak) ap akey ann a0 a1 a2 a3 a4 as_ w (some (gapL ai bk bi bj left, aj))) := by
  have HSM := hid hai
  obtain ⟨hai1, hai2⟩ := hai
  obtain ⟨haj1, haj2⟩ := haj
  obtain ⟨hbi1, hbi2⟩ := hbi
  obtain ⟨hbj1, hbj2⟩ := hbj
  have hb1 := bl_bd bi ai
  have FIN := hid (fun (g : Int) (g0 : Nat) (W : World) (hW : W = (w.alloc (.cells (aC ak g aj ap akey ann a0 a1 a2 a3 a4 as_) TCOMP)).alloc (.cells (aC bk bi bj p key nn v0 v1 v2 v3 v4 s) TCOMP)) (h0 : g0 = W.heap.size) (hg : gapL ai bk bi bj left = g) =>
    comp_some (w := w) (W := W) (U8 ak) ap akey ann a0 a1 a2 a3 a4 as_ (r := some (gapL ai bk bi bj left, aj)) (by rw [hg]) h0 (by subst hW; exact ((Keep.refl _ _).alloc _).alloc _))
  rcases kind_cases bk with rfl | rfl | rfl | rfl | ⟨h0, h4, h5, h6, h7⟩
  · rcases tri bi ai with ⟨t1, t2, t4⟩ | rfl | ⟨t1, t2, t4, t3⟩
    all_goals
      cases left
      all_goals
        go_enter Try.func42, Try.ntmps42
        go_wp2
        go_ret
        exact FIN.out _ _ _ rfl (by simp) (by first | (simp [gapL, up_eq]; done) | (simp [gapL, up_lt t1]; done) | (simp [gapL, up_gt t1]; done))
  · go_enter Try.func42, Try.ntmps42
    go_wp2_with (first | (go_at_call 41; refine (less_any _ _ _ HSM.out).mono ?_; rintro e w' ⟨rfl, rfl⟩))
    go_ret
    exact FIN.out _ _ _ rfl (by simp) (by simp [gapL])
  · go_enter Try.func42, Try.ntmps42
    go_wp2
    go_ret
    exact FIN.out _ _ _ rfl (by simp) (by simp [gapL])
  · obtain ⟨x, hx⟩ : ∃ x, x = ai - bl bi ai := ⟨_, rfl⟩
    have hxb : -1099511627777 ≤ x ∧ x ≤ 1099511627776 := by omega
    have HL := hid (fun w => less_any ai bi w HSM.out)
    rw [← hx] at HL
    have HX := hid hx
    clear hx hb1
    rcases tri bj x with ⟨t1, t2, t4⟩ | rfl | ⟨t1, t2, t4, t3⟩
    all_goals
      cases left
      all_goals
        go_enter Try.func42, Try.ntmps42
        go_wp2_with (first | (go_at_call 41; refine (HL.out _).mono ?_; rintro e w' ⟨rfl, rfl⟩))
        go_ret
        exact FIN.out _ _ _ rfl (by simp) (by have hx := HX.out; first | (simp [gapL, ← hx, up_eq]; done) | (simp [gapL, ← hx, up_lt t1]; done) | (simp [gapL, ← hx, up_gt t1]; done))
  · have HK := hid (show bk ≠ 4 ∧ bk ≠ 5 ∧ bk ≠ 6 ∧ bk ≠ 7 from by simp [knownL] at h0; exact ⟨h0.1.1.1, h0.1.1.2, h0.1.2, h0.2⟩)
    go_enter Try.func42, Try.ntmps42
    go_wp2
    go_ret
    exact FIN.out _ _ _ rfl (by simp) (by obtain ⟨k4, k5, k6, k7⟩ := HK.out; simp [gapL, k4, k5, k7])
end Go.Proofs.Ytimhfkllamimeaa
