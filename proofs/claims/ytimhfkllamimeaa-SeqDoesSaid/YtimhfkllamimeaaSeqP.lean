/- Two things done to one list, each behind the other: the same list (plain law, no program walked). -/
import Derived.Test.YtimhfkllamimeaaSeqE
import Derived.Test.YtimhfkllamimeaaSeqD
set_option linter.unusedSimpArgs false
set_option linter.unusedVariables false
namespace Go.Proofs.Ytimhfkllamimeaa
open Go.RowKit
/-- Where the k-th of the list behind it comes from. -/
def src (c : UInt8) (i j k : Int) : Int :=
  if c = 4 then (if k < i then k else k - 1)
  else if c = 5 then (if k < i then k else k + 1)
  else if c = 6 then k
  else if k = j then i else (if k < j then (if k < i then k else k + 1) else (if k - 1 < i then k - 1 else k))
def isNew (c : UInt8) (i k : Int) : Prop := (c = 4 ∨ c = 6) ∧ k = i
def dlen (c : UInt8) : Int := if c = 4 then 1 else if c = 5 then -1 else 0
theorem bl1 {a b : Int} (h : a < b) : bl a b = 1 := by simp [bl, h]
theorem bl0 {a b : Int} (h : ¬ a < b) : bl a b = 0 := by simp [bl, h]
theorem blr {a : Int} : bl a a = 0 := by simp [bl]
instance (c : UInt8) (i k : Int) : Decidable (isNew c i k) := by unfold isNew; infer_instance

/-- What is left of one behind the other, laid out: new, or from where. -/
def two (xk : UInt8) (xi xj : Int) (y' : Option (Int × Int)) (yk : UInt8) (k : Int) : Bool ⊕ Int :=
  match y' with
  | none => if isNew xk xi k then .inl true else .inr (src xk xi xj k)
  | some (yi, yj) => if isNew yk yi k then .inl false else if isNew xk xi (src yk yi yj k) then .inl true else .inr (src xk xi xj (src yk yi yj k))
/-- The same, seen from the other one. -/
def swp : Bool ⊕ Int → Bool ⊕ Int
  | .inl b => .inl (!b)
  | .inr k => .inr k
theorem sw1 (b : Bool) : swp (.inl b) = .inl (!b) := rfl
theorem sw2 (k : Int) : swp (.inr k) = .inr k := rfl
set_option maxHeartbeats 4000000 in
theorem t44 (xi yi k : Int) (xj yj : Int) (left : Bool) : two 4 xi xj (turnL 4 yi yj 4 xi xj (!left)) 4 k = swp (two 4 yi yj (turnL 4 xi xj 4 yi yj left) 4 k) := by
  rcases Int.lt_trichotomy xi yi with h | rfl | h
  · have h1 : ¬ xi = yi := by omega
    have h2 : ¬ yi = xi := by omega
    have h3 : ¬ yi < xi := by omega
    cases left <;> simp [turnL, knownL, two, gapL, src, isNew, up, bl, atL, moveL, targetL, apply_ite swp, sw1, sw2, h, h1, h2, h3] <;> (repeat' split) <;> first | rfl | (exfalso; omega) | (congr 1; omega)
  · cases left <;> simp [turnL, knownL, two, gapL, src, isNew, up, bl, atL, moveL, targetL, apply_ite swp, sw1, sw2] <;> (repeat' split) <;> first | rfl | (exfalso; omega) | (congr 1; omega)
  · have h1 : ¬ xi = yi := by omega
    have h2 : ¬ yi = xi := by omega
    have h3 : ¬ xi < yi := by omega
    cases left <;> simp [turnL, knownL, two, gapL, src, isNew, up, bl, atL, moveL, targetL, apply_ite swp, sw1, sw2, h, h1, h2, h3] <;> (repeat' split) <;> first | rfl | (exfalso; omega) | (congr 1; omega)
set_option maxHeartbeats 4000000 in
theorem t45 (xi yi k : Int) (xj yj : Int) (left : Bool) : two 4 xi xj (turnL 5 yi yj 4 xi xj (!left)) 5 k = swp (two 5 yi yj (turnL 4 xi xj 5 yi yj left) 4 k) := by
  rcases Int.lt_trichotomy xi yi with h | rfl | h
  · have h1 : ¬ xi = yi := by omega
    have h2 : ¬ yi = xi := by omega
    have h3 : ¬ yi < xi := by omega
    cases left <;> simp [turnL, knownL, two, gapL, src, isNew, up, bl, atL, moveL, targetL, apply_ite swp, sw1, sw2, h, h1, h2, h3] <;> (repeat' split) <;> first | rfl | (exfalso; omega) | (congr 1; omega)
  · cases left <;> simp [turnL, knownL, two, gapL, src, isNew, up, bl, atL, moveL, targetL, apply_ite swp, sw1, sw2] <;> (repeat' split) <;> first | rfl | (exfalso; omega) | (congr 1; omega)
  · have h1 : ¬ xi = yi := by omega
    have h2 : ¬ yi = xi := by omega
    have h3 : ¬ xi < yi := by omega
    cases left <;> simp [turnL, knownL, two, gapL, src, isNew, up, bl, atL, moveL, targetL, apply_ite swp, sw1, sw2, h, h1, h2, h3] <;> (repeat' split) <;> first | rfl | (exfalso; omega) | (congr 1; omega)
set_option maxHeartbeats 4000000 in
theorem t46 (xi yi k : Int) (xj yj : Int) (left : Bool) : two 4 xi xj (turnL 6 yi yj 4 xi xj (!left)) 6 k = swp (two 6 yi yj (turnL 4 xi xj 6 yi yj left) 4 k) := by
  rcases Int.lt_trichotomy xi yi with h | rfl | h
  · have h1 : ¬ xi = yi := by omega
    have h2 : ¬ yi = xi := by omega
    have h3 : ¬ yi < xi := by omega
    cases left <;> simp [turnL, knownL, two, gapL, src, isNew, up, bl, atL, moveL, targetL, apply_ite swp, sw1, sw2, h, h1, h2, h3] <;> (repeat' split) <;> first | rfl | (exfalso; omega) | (congr 1; omega)
  · cases left <;> simp [turnL, knownL, two, gapL, src, isNew, up, bl, atL, moveL, targetL, apply_ite swp, sw1, sw2] <;> (repeat' split) <;> first | rfl | (exfalso; omega) | (congr 1; omega)
  · have h1 : ¬ xi = yi := by omega
    have h2 : ¬ yi = xi := by omega
    have h3 : ¬ xi < yi := by omega
    cases left <;> simp [turnL, knownL, two, gapL, src, isNew, up, bl, atL, moveL, targetL, apply_ite swp, sw1, sw2, h, h1, h2, h3] <;> (repeat' split) <;> first | rfl | (exfalso; omega) | (congr 1; omega)
set_option maxHeartbeats 4000000 in
theorem t55 (xi yi k : Int) (xj yj : Int) (left : Bool) : two 5 xi xj (turnL 5 yi yj 5 xi xj (!left)) 5 k = swp (two 5 yi yj (turnL 5 xi xj 5 yi yj left) 5 k) := by
  rcases Int.lt_trichotomy xi yi with h | rfl | h
  · have h1 : ¬ xi = yi := by omega
    have h2 : ¬ yi = xi := by omega
    have h3 : ¬ yi < xi := by omega
    cases left <;> simp [turnL, knownL, two, gapL, src, isNew, up, bl, atL, moveL, targetL, apply_ite swp, sw1, sw2, h, h1, h2, h3] <;> (repeat' split) <;> first | rfl | (exfalso; omega) | (congr 1; omega)
  · cases left <;> simp [turnL, knownL, two, gapL, src, isNew, up, bl, atL, moveL, targetL, apply_ite swp, sw1, sw2] <;> (repeat' split) <;> first | rfl | (exfalso; omega) | (congr 1; omega)
  · have h1 : ¬ xi = yi := by omega
    have h2 : ¬ yi = xi := by omega
    have h3 : ¬ xi < yi := by omega
    cases left <;> simp [turnL, knownL, two, gapL, src, isNew, up, bl, atL, moveL, targetL, apply_ite swp, sw1, sw2, h, h1, h2, h3] <;> (repeat' split) <;> first | rfl | (exfalso; omega) | (congr 1; omega)
set_option maxHeartbeats 4000000 in
theorem t56 (xi yi k : Int) (xj yj : Int) (left : Bool) : two 5 xi xj (turnL 6 yi yj 5 xi xj (!left)) 6 k = swp (two 6 yi yj (turnL 5 xi xj 6 yi yj left) 5 k) := by
  rcases Int.lt_trichotomy xi yi with h | rfl | h
  · have h1 : ¬ xi = yi := by omega
    have h2 : ¬ yi = xi := by omega
    have h3 : ¬ yi < xi := by omega
    cases left <;> simp [turnL, knownL, two, gapL, src, isNew, up, bl, atL, moveL, targetL, apply_ite swp, sw1, sw2, h, h1, h2, h3] <;> (repeat' split) <;> first | rfl | (exfalso; omega) | (congr 1; omega)
  · cases left <;> simp [turnL, knownL, two, gapL, src, isNew, up, bl, atL, moveL, targetL, apply_ite swp, sw1, sw2] <;> (repeat' split) <;> first | rfl | (exfalso; omega) | (congr 1; omega)
  · have h1 : ¬ xi = yi := by omega
    have h2 : ¬ yi = xi := by omega
    have h3 : ¬ xi < yi := by omega
    cases left <;> simp [turnL, knownL, two, gapL, src, isNew, up, bl, atL, moveL, targetL, apply_ite swp, sw1, sw2, h, h1, h2, h3] <;> (repeat' split) <;> first | rfl | (exfalso; omega) | (congr 1; omega)
set_option maxHeartbeats 4000000 in
theorem t66 (xi yi k : Int) (xj yj : Int) (left : Bool) : two 6 xi xj (turnL 6 yi yj 6 xi xj (!left)) 6 k = swp (two 6 yi yj (turnL 6 xi xj 6 yi yj left) 6 k) := by
  rcases Int.lt_trichotomy xi yi with h | rfl | h
  · have h1 : ¬ xi = yi := by omega
    have h2 : ¬ yi = xi := by omega
    have h3 : ¬ yi < xi := by omega
    cases left <;> simp [turnL, knownL, two, gapL, src, isNew, up, bl, atL, moveL, targetL, apply_ite swp, sw1, sw2, h, h1, h2, h3] <;> (repeat' split) <;> first | rfl | (exfalso; omega) | (congr 1; omega)
  · cases left <;> simp [turnL, knownL, two, gapL, src, isNew, up, bl, atL, moveL, targetL, apply_ite swp, sw1, sw2] <;> (repeat' split) <;> first | rfl | (exfalso; omega) | (congr 1; omega)
  · have h1 : ¬ xi = yi := by omega
    have h2 : ¬ yi = xi := by omega
    have h3 : ¬ xi < yi := by omega
    cases left <;> simp [turnL, knownL, two, gapL, src, isNew, up, bl, atL, moveL, targetL, apply_ite swp, sw1, sw2, h, h1, h2, h3] <;> (repeat' split) <;> first | rfl | (exfalso; omega) | (congr 1; omega)
set_option maxHeartbeats 4000000 in
theorem t67 (xi yi k : Int) (xj yj : Int) (left : Bool) : two 6 xi xj (turnL 7 yi yj 6 xi xj (!left)) 7 k = swp (two 7 yi yj (turnL 6 xi xj 7 yi yj left) 6 k) := by
  rcases Int.lt_trichotomy xi yi with h | rfl | h
  · have h1 : ¬ xi = yi := by omega
    have h2 : ¬ yi = xi := by omega
    have h3 : ¬ yi < xi := by omega
    cases left <;> simp [turnL, knownL, two, gapL, src, isNew, up, bl, atL, moveL, targetL, apply_ite swp, sw1, sw2, h, h1, h2, h3] <;> (repeat' split) <;> first | rfl | (exfalso; omega) | (congr 1; omega)
  · cases left <;> simp [turnL, knownL, two, gapL, src, isNew, up, bl, atL, moveL, targetL, apply_ite swp, sw1, sw2] <;> (repeat' split) <;> first | rfl | (exfalso; omega) | (congr 1; omega)
  · have h1 : ¬ xi = yi := by omega
    have h2 : ¬ yi = xi := by omega
    have h3 : ¬ xi < yi := by omega
    cases left <;> simp [turnL, knownL, two, gapL, src, isNew, up, bl, atL, moveL, targetL, apply_ite swp, sw1, sw2, h, h1, h2, h3] <;> (repeat' split) <;> first | rfl | (exfalso; omega) | (congr 1; omega)
set_option linter.unusedSimpArgs false

set_option maxHeartbeats 8000000 in
theorem a47 (xi yi yj k xi' yi' yj' : Int) (left : Bool) (h1 : yi' = yi + up xi yi true) (h2 : yj' = yj + up (xi - bl yi xi) yj left) (h3 : xi' = (xi - bl yi xi) + up yj (xi - bl yi xi) (!left)) :
    (src 7 yi' yj' k = xi ↔ k = xi') ∧ (k ≠ xi' → src 4 xi 0 (src 7 yi' yj' k) = src 7 yi yj (src 4 xi' 0 k)) := by
  simp only [src, show (7 : UInt8) ≠ 4 from by decide, show (7 : UInt8) ≠ 5 from by decide, show (7 : UInt8) ≠ 6 from by decide, if_true, if_false]
  cases left
  all_goals
    simp only [up, bl, Bool.not_true, Bool.not_false, and_true, and_false, Bool.false_eq_true, if_false] at h1 h2 h3
    by_cases c1 : yi < xi
    all_goals
      simp only [c1, if_true, if_false, Int.sub_zero] at h2 h3
      by_cases c2 : xi = yi <;> by_cases c3 : xi < yi <;> (first | omega | skip)
      all_goals (simp only [c2, c3, if_true, if_false] at h1)
      all_goals
        repeat' split at h2
        all_goals
          repeat' split at h3
          all_goals (first | omega | (constructor <;> omega))
set_option maxHeartbeats 8000000 in
theorem a57 (xi yi yj k xi' yi' yj' : Int) (hne : xi ≠ yi) (h1 : yi' = yi - bl xi yi) (h2 : yj' = yj - bl (xi - bl yi xi) yj) (h3 : xi' = xi - bl yi xi + up yj (xi - bl yi xi) true) :
    src 5 xi 0 (src 7 yi' yj' k) = src 7 yi yj (src 5 xi' 0 k) := by
  simp only [src, show (7 : UInt8) ≠ 4 from by decide, show (7 : UInt8) ≠ 5 from by decide, show (5 : UInt8) ≠ 4 from by decide, show (7 : UInt8) ≠ 6 from by decide, if_true, if_false]
  simp only [up, bl, and_true] at h1 h2 h3
  by_cases c1 : yi < xi
  all_goals
    simp only [c1, if_true, if_false, Int.sub_zero] at h2 h3
    by_cases c3 : xi < yi <;> (first | omega | skip)
    all_goals (simp only [c3, if_true, if_false] at h1)
    all_goals
      repeat' split at h2
      all_goals
        repeat' split at h3
        all_goals omega
set_option maxHeartbeats 8000000 in
theorem a57b (xi yi yj k xi' : Int) (he : xi = yi) (h3 : xi' = yj) : src 5 xi 0 k = src 7 yi yj (src 5 xi' 0 k) := by
  simp only [src, show (7 : UInt8) ≠ 4 from by decide, show (7 : UInt8) ≠ 5 from by decide, show (5 : UInt8) ≠ 4 from by decide, show (7 : UInt8) ≠ 6 from by decide, if_true, if_false]
  omega
set_option maxHeartbeats 8000000 in
theorem a77 (xi xj yi yj k xi' xj' yi' yj' : Int) (hlt : xi < yi) (left : Bool) (h1 : yi' = yi - bl xi yi + up xj (yi - bl xi yi) true) (h2 : yj' = (yj - bl (xi - bl yi xi) yj) + up (xj - bl (yi - bl xi yi) xj) (yj - bl (xi - bl yi xi) yj) left)
    (h3 : xi' = xi - bl yi xi + up yj (xi - bl yi xi) true) (h4 : xj' = (xj - bl (yi - bl xi yi) xj) + up (yj - bl (xi - bl yi xi) yj) (xj - bl (yi - bl xi yi) xj) (!left)) :
    src 7 xi xj (src 7 yi' yj' k) = src 7 yi yj (src 7 xi' xj' k) := by
  simp only [src, show (7 : UInt8) ≠ 4 from by decide, show (7 : UInt8) ≠ 5 from by decide, show (7 : UInt8) ≠ 6 from by decide, if_true, if_false]
  rw [bl1 hlt, bl0 (show ¬ yi < xi from by omega)] at *
  simp only [Int.sub_zero] at h1 h2 h3 h4
  obtain ⟨p, hp⟩ : ∃ p, p = yj - bl xi yj := ⟨_, rfl⟩
  obtain ⟨q, hq⟩ : ∃ q, q = xj - bl (yi - 1) xj := ⟨_, rfl⟩
  rw [← hp] at h2 h4
  rw [← hq] at h2 h4
  cases left
  all_goals
    simp only [up, bl, Bool.not_true, Bool.not_false, and_true, and_false, Bool.false_eq_true, if_false] at h1 h2 h3 h4 hp hq
    repeat' split at hp
    all_goals
      repeat' split at hq
      all_goals
        repeat' split at h1
        all_goals
          first
          | (exfalso; omega)
          | (repeat' split at h3
             all_goals
               first
               | (exfalso; omega)
               | (repeat' split at h2
                  all_goals
                    first
                    | (exfalso; omega)
                    | (repeat' split at h4
                       all_goals first | (exfalso; omega) | omega)))
theorem turn74 (yi yj xi xj : Int) (left : Bool) : turnL 7 yi yj 4 xi xj (!left) = some (yi + up xi yi true, yj + up (xi - bl yi xi) yj left) := by
  simp [turnL, moveL, atL, targetL, knownL]
theorem turn47 (yi yj xi xj : Int) (left : Bool) : turnL 4 xi xj 7 yi yj left = some ((xi - bl yi xi) + up yj (xi - bl yi xi) (!left), xj) := by
  simp [turnL, gapL, knownL]
theorem two_n7 {c : UInt8} {xi xj yi yj k : Int} : two c xi xj (some (yi, yj)) 7 k = if isNew c xi (src 7 yi yj k) then .inl true else .inr (src c xi xj (src 7 yi yj k)) := by
  simp only [two]
  rw [if_neg (fun h : isNew 7 yi k => by have := h.1; revert this; decide)]
theorem src4j (i j k : Int) : src 4 i j k = src 4 i 0 k := rfl
theorem src5j (i j k : Int) : src 5 i j k = src 5 i 0 k := rfl
theorem new4 {i k : Int} : isNew 4 i k ↔ k = i := by simp [isNew]
theorem t47 (xi yi k : Int) (xj yj : Int) (left : Bool) : two 4 xi xj (turnL 7 yi yj 4 xi xj (!left)) 7 k = swp (two 7 yi yj (turnL 4 xi xj 7 yi yj left) 4 k) := by
  rw [turn74, turn47, two_n7]
  obtain ⟨hA, hB⟩ := a47 xi yi yj k _ _ _ left rfl rfl rfl
  have h7 : ∀ m, ¬ isNew 7 yi m := fun m h => by have := h.1; revert this; decide
  simp only [two]
  by_cases h : k = (xi - bl yi xi) + up yj (xi - bl yi xi) (!left)
  · rw [if_pos (new4.2 (hA.2 h)), if_pos (new4.2 h)]; rfl
  · rw [if_neg (fun e => h (hA.1 (new4.1 e))), if_neg (fun e => h (new4.1 e)), if_neg (h7 _), src4j, hB h]; rfl
theorem t57 (xi yi k : Int) (xj yj : Int) (left : Bool) : two 5 xi xj (turnL 7 yi yj 5 xi xj (!left)) 7 k = swp (two 7 yi yj (turnL 5 xi xj 7 yi yj left) 5 k) := by
  have h7 : ∀ m, ¬ isNew 7 yi m := fun m h => by have := h.1; revert this; decide
  have h5 : ∀ i m, ¬ isNew 5 i m := fun i m h => by have := h.1; revert this; decide
  by_cases he : xi = yi
  · subst he
    have e1 : turnL 7 xi yj 5 xi xj (!left) = none := by simp [turnL, moveL, knownL]
    have e2 : turnL 5 xi xj 7 xi yj left = some (yj, xj) := by simp [turnL, atL, knownL]
    rw [e1, e2]
    simp only [two, if_neg (h7 _), if_neg (h5 _ _)]
    rw [src5j, a57b xi xi yj k yj rfl rfl]; rfl
  · have e1 : turnL 7 yi yj 5 xi xj (!left) = some (yi - bl xi yi, yj - bl (xi - bl yi xi) yj) := by simp [turnL, moveL, atL, targetL, knownL, he, show ¬ yi = xi from fun e => he e.symm]
    have e2 : turnL 5 xi xj 7 yi yj left = some (xi - bl yi xi + up yj (xi - bl yi xi) true, xj) := by simp [turnL, atL, knownL, show ¬ yi = xi from fun e => he e.symm]
    rw [e1, e2]
    simp only [two, if_neg (h7 _), if_neg (h5 _ _), show ∀ a b, ¬ isNew 7 a b from fun a b h => by have := h.1; revert this; decide, if_false]
    rw [src5j, a57 xi yi yj k _ _ _ he rfl rfl rfl]; rfl
theorem turn77 {yi yj xi xj : Int} {left : Bool} (h : yi ≠ xi) : turnL 7 yi yj 7 xi xj left = some (yi - bl xi yi + up xj (yi - bl xi yi) true, (yj - bl (xi - bl yi xi) yj) + up (xj - bl (yi - bl xi yi) xj) (yj - bl (xi - bl yi xi) yj) (!left)) := by
  simp [turnL, moveL, atL, targetL, knownL, h, show ¬ xi = yi from fun e => h e.symm]
theorem t77 (xi yi k : Int) (xj yj : Int) (left : Bool) : two 7 xi xj (turnL 7 yi yj 7 xi xj (!left)) 7 k = swp (two 7 yi yj (turnL 7 xi xj 7 yi yj left) 7 k) := by
  have h7 : ∀ a b, ¬ isNew 7 a b := fun a b h => by have := h.1; revert this; decide
  rcases Int.lt_trichotomy xi yi with h | rfl | h
  · rw [turn77 (by omega), turn77 (by omega)]
    simp only [two, h7, if_false, Bool.not_not]
    rw [a77 xi xj yi yj k _ _ _ _ h left rfl rfl rfl rfl]; rfl
  · cases left
    · have e1 : turnL 7 xi yj 7 xi xj (!false) = some (xj, yj) := by simp [turnL, moveL, knownL]
      have e2 : turnL 7 xi xj 7 xi yj false = none := by simp [turnL, moveL, knownL]
      rw [e1, e2]
      simp only [two, h7, if_false]
      show Sum.inr _ = Sum.inr _
      congr 1
      simp only [src, show (7 : UInt8) ≠ 4 from by decide, show (7 : UInt8) ≠ 5 from by decide, show (7 : UInt8) ≠ 6 from by decide, if_false]
      omega
    · have e1 : turnL 7 xi yj 7 xi xj (!true) = none := by simp [turnL, moveL, knownL]
      have e2 : turnL 7 xi xj 7 xi yj true = some (yj, xj) := by simp [turnL, moveL, knownL]
      rw [e1, e2]
      simp only [two, h7, if_false]
      show Sum.inr _ = Sum.inr _
      congr 1
      simp only [src, show (7 : UInt8) ≠ 4 from by decide, show (7 : UInt8) ≠ 5 from by decide, show (7 : UInt8) ≠ 6 from by decide, if_false]
      omega
  · rw [turn77 (by omega), turn77 (by omega)]
    simp only [two, h7, if_false, Bool.not_not]
    have key := a77 yi yj xi xj k _ _ _ _ h (!left) rfl rfl rfl rfl
    rw [Bool.not_not] at key
    rw [key]; rfl
theorem swp_swp (x : Bool ⊕ Int) : swp (swp x) = x := by cases x <;> simp [swp]
theorem two_all {a b : UInt8} (ha : a = 4 ∨ a = 5 ∨ a = 6 ∨ a = 7) (hb : b = 4 ∨ b = 5 ∨ b = 6 ∨ b = 7) (xi yi k : Int) (xj yj : Int) (left : Bool) : two a xi xj (turnL b yi yj a xi xj (!left)) b k = swp (two b yi yj (turnL a xi xj b yi yj left) a k) := by
  have back : ∀ {a b : UInt8}, (∀ (xi yi k : Int) (xj yj : Int) (left : Bool), two a xi xj (turnL b yi yj a xi xj (!left)) b k = swp (two b yi yj (turnL a xi xj b yi yj left) a k)) → ∀ (xi yi k : Int) (xj yj : Int) (left : Bool), two b xi xj (turnL a yi yj b xi xj (!left)) a k = swp (two a yi yj (turnL b xi xj a yi yj left) b k) := fun h xi yi k xj yj left => by
    have := h yi xi k yj xj (!left)
    rw [Bool.not_not] at this
    rw [this, swp_swp]
  rcases ha with rfl | rfl | rfl | rfl <;> rcases hb with rfl | rfl | rfl | rfl
  · exact t44 ..
  · exact t45 ..
  · exact t46 ..
  · exact t47 ..
  · exact back t45 ..
  · exact t55 ..
  · exact t56 ..
  · exact t57 ..
  · exact back t46 ..
  · exact back t56 ..
  · exact t66 ..
  · exact t67 ..
  · exact back t47 ..
  · exact back t57 ..
  · exact back t67 ..
  · exact t77 ..
end Go.Proofs.Ytimhfkllamimeaa
