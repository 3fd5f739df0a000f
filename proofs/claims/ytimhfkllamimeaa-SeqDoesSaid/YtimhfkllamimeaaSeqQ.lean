/- Lists of components, done one behind the other (plain law). -/
import Derived.Test.YtimhfkllamimeaaSeqP
set_option linter.unusedSimpArgs false
set_option linter.unusedVariables false
namespace Go.Proofs.Ytimhfkllamimeaa
open Go.RowKit
/-! ### Lists -/
structure Cm (α : Type) where
  k : UInt8
  i : Int
  j : Int
  x : α
def doL {α : Type} (l : List α) (c : Cm α) : Option (List α) :=
  if checkL l.length c.k c.i c.j = 0 then
    (if c.k = 4 then some (l.take c.i.toNat ++ c.x :: l.drop c.i.toNat)
     else if c.k = 5 then some (l.eraseIdx c.i.toNat)
     else if c.k = 6 then some (l.set c.i.toNat c.x)
     else l[c.i.toNat]?.map fun x => (l.eraseIdx c.i.toNat).take c.j.toNat ++ x :: (l.eraseIdx c.i.toNat).drop c.j.toNat)
  else none
def doneL {α : Type} : List α → List (Cm α) → Option (List α)
  | l, [] => some l
  | l, c :: cs => (doL l c).bind fun l' => doneL l' cs
def turnC {α : Type} (a b : Cm α) (left : Bool) : List (Cm α) := ((turnL a.k a.i a.j b.k b.i b.j left).map fun p => ({ a with i := p.1, j := p.2 } : Cm α)).toList
/-- A list as a function of places. -/
def Fn {α : Type} (l : List α) (k : Int) : Option α := if 0 ≤ k then l[k.toNat]? else none
def doF {α : Type} (f : Int → Option α) (c : Cm α) (k : Int) : Option α := if isNew c.k c.i k then some c.x else f (src c.k c.i c.j k)
theorem F_inj {α : Type} {l m : List α} (h : ∀ k, Fn l k = Fn m k) : l = m := by
  apply List.ext_getElem?
  intro i
  have := h i
  simpa [Fn] using this
theorem ins_get {α : Type} (l : List α) (i : Nat) (x : α) (h : i ≤ l.length) (k : Nat) : (l.take i ++ x :: l.drop i)[k]? = if k < i then l[k]? else if k = i then some x else l[k - 1]? := by
  have h1 : (l.take i).length = i := by rw [List.length_take]; omega
  by_cases c : k < i
  · rw [if_pos c, List.getElem?_append_left (by omega), List.getElem?_take_of_lt c]
  · rw [if_neg c, List.getElem?_append_right (by omega), h1]
    by_cases e : k = i
    · subst e; simp
    · rw [if_neg e]
      obtain ⟨m, rfl⟩ : ∃ m, k = i + m + 1 := ⟨k - i - 1, by omega⟩
      rw [show i + m + 1 - i = m + 1 from by omega, List.getElem?_cons_succ, List.getElem?_drop, show i + m + 1 - 1 = i + m from by omega]
theorem check_ok {n : Nat} {k : UInt8} {i j : Int} (h : checkL n k i j = 0) : (k = 4 ∧ 0 ≤ i ∧ i ≤ n) ∨ (k = 5 ∧ 0 ≤ i ∧ i < n) ∨ (k = 6 ∧ 0 ≤ i ∧ i < n) ∨ (k = 7 ∧ 0 ≤ i ∧ i < n ∧ 0 ≤ j ∧ j < n) := by
  unfold checkL at h
  by_cases hk : knownL k = false
  · rw [if_pos hk] at h; cases h
  rw [if_neg hk] at h
  by_cases h1 : i < 0 ∨ i > (if k = 4 then (n : Int) else (n : Int) - 1)
  · rw [if_pos h1] at h; cases h
  rw [if_neg h1] at h
  by_cases h2 : k = 7 ∧ (j < 0 ∨ j ≥ (n : Int))
  · rw [if_pos h2] at h; cases h
  have hk4 : k = 4 ∨ k = 5 ∨ k = 6 ∨ k = 7 := by
    simp [knownL] at hk
    by_cases a4 : k = 4
    · exact .inl a4
    by_cases a5 : k = 5
    · exact .inr (.inl a5)
    by_cases a6 : k = 6
    · exact .inr (.inr (.inl a6))
    exact .inr (.inr (.inr (hk a4 a5 a6)))
  rcases hk4 with rfl | rfl | rfl | rfl
  · rw [if_pos rfl] at h1; exact .inl ⟨rfl, by omega, by omega⟩
  · rw [if_neg (by decide)] at h1; exact .inr (.inl ⟨rfl, by omega, by omega⟩)
  · rw [if_neg (by decide)] at h1; exact .inr (.inr (.inl ⟨rfl, by omega, by omega⟩))
  · rw [if_neg (by decide)] at h1
    have h3 : ¬ (j < 0 ∨ j ≥ (n : Int)) := fun e => h2 ⟨rfl, e⟩
    exact .inr (.inr (.inr ⟨rfl, by omega, by omega, by omega, by omega⟩))
theorem check_of {n : Nat} {k : UInt8} {i j : Int} (h : (k = 4 ∧ 0 ≤ i ∧ i ≤ n) ∨ (k = 5 ∧ 0 ≤ i ∧ i < n) ∨ (k = 6 ∧ 0 ≤ i ∧ i < n) ∨ (k = 7 ∧ 0 ≤ i ∧ i < n ∧ 0 ≤ j ∧ j < n)) : checkL n k i j = 0 := by
  unfold checkL
  rcases h with ⟨rfl, h1, h2⟩ | ⟨rfl, h1, h2⟩ | ⟨rfl, h1, h2⟩ | ⟨rfl, h1, h2, h3, h4⟩
  · rw [if_neg (by decide), if_neg (by rw [if_pos rfl]; omega), if_neg (fun e => absurd e.1 (by decide))]
  · rw [if_neg (by decide), if_neg (by rw [if_neg (by decide)]; omega), if_neg (fun e => absurd e.1 (by decide))]
  · rw [if_neg (by decide), if_neg (by rw [if_neg (by decide)]; omega), if_neg (fun e => absurd e.1 (by decide))]
  · rw [if_neg (by decide), if_neg (by rw [if_neg (by decide)]; omega), if_neg (fun e => by have := e.2; omega)]
theorem do_F {α : Type} (l : List α) (c : Cm α) (h : checkL l.length c.k c.i c.j = 0) : ∃ l', doL l c = some l' ∧ (∀ k, Fn l' k = doF (Fn l) c k) ∧ (l'.length : Int) = l.length + dlen c.k := by
  obtain ⟨ck, ci, cj, cx⟩ := c
  simp only at h
  have h0 := check_ok h
  rcases h0 with ⟨rfl, h1, h2⟩ | ⟨rfl, h1, h2⟩ | ⟨rfl, h1, h2⟩ | ⟨rfl, h1, h2, h3, h4⟩
  · refine ⟨_, by simp only [doL, h, if_true]; rfl, fun k => ?_, by simp [dlen]; omega⟩
    obtain ⟨i, rfl⟩ : ∃ i : Nat, ci = i := ⟨ci.toNat, by omega⟩
    simp only [Fn, doF, isNew, src, Int.toNat_natCast]
    by_cases hk : 0 ≤ k
    · obtain ⟨m, rfl⟩ : ∃ m : Nat, k = m := ⟨k.toNat, by omega⟩
      rw [ins_get l i cx (by omega)]
      by_cases c1 : m < i
      · simp [c1, show ¬ (m : Int) = i from by omega]
      · by_cases c2 : m = i
        · simp [c2]
        · simp [c1, show ¬ (m : Int) = i from by omega, show (1 : Int) ≤ (m : Int) from by omega, show ((m : Int) - 1).toNat = m - 1 from by omega, c2]
    · have c1 : k < i := by omega
      simp [hk, c1, show ¬ k = i from by omega]
  · refine ⟨_, by simp only [doL, h, if_true]; rfl, fun k => ?_, by rw [List.length_eraseIdx_of_lt (show ci.toNat < l.length from by omega)]; simp [dlen]; omega⟩
    obtain ⟨i, rfl⟩ : ∃ i : Nat, ci = i := ⟨ci.toNat, by omega⟩
    simp only [Fn, doF, isNew, src, Int.toNat_natCast]
    by_cases hk : 0 ≤ k
    · obtain ⟨m, rfl⟩ : ∃ m : Nat, k = m := ⟨k.toNat, by omega⟩
      rw [List.getElem?_eraseIdx]
      by_cases c1 : m < i
      · simp [c1]
      · simp [c1, show ((m : Int) + 1).toNat = m + 1 from by omega, show (0 : Int) ≤ (m : Int) + 1 from by omega]
    · have c1 : k < i := by omega
      simp [hk, c1]
  · refine ⟨_, by simp only [doL, h, if_true]; rfl, fun k => ?_, by simp [dlen]⟩
    obtain ⟨i, rfl⟩ : ∃ i : Nat, ci = i := ⟨ci.toNat, by omega⟩
    simp only [Fn, doF, isNew, src, Int.toNat_natCast]
    by_cases hk : 0 ≤ k
    · obtain ⟨m, rfl⟩ : ∃ m : Nat, k = m := ⟨k.toNat, by omega⟩
      rw [Int.toNat_natCast, List.getElem?_set]
      by_cases c2 : m = i
      · subst c2; simp [show m < l.length from by omega]
      · simp [c2, show ¬ i = m from fun e => c2 e.symm, show ¬ (m : Int) = i from by omega]
    · simp [hk, show ¬ k = i from by omega]
  · obtain ⟨i, rfl⟩ : ∃ i : Nat, ci = i := ⟨ci.toNat, by omega⟩
    obtain ⟨j, rfl⟩ : ∃ j : Nat, cj = j := ⟨cj.toNat, by omega⟩
    have hi : i < l.length := by omega
    have hel : (l.eraseIdx i).length = l.length - 1 := List.length_eraseIdx_of_lt hi
    have hdo : doL l ⟨7, i, j, cx⟩ = some ((l.eraseIdx i).take j ++ l[i] :: (l.eraseIdx i).drop j) := by
      simp only [doL, h, if_true, Int.toNat_natCast]
      rw [List.getElem?_eq_getElem hi]; rfl
    refine ⟨_, hdo, fun k => ?_, by rw [List.length_append, List.length_cons, List.length_take, List.length_drop, hel]; simp [dlen]; omega⟩
    simp only [Fn, doF, isNew, src]
    by_cases hk : 0 ≤ k
    · obtain ⟨m, rfl⟩ : ∃ m : Nat, k = m := ⟨k.toNat, by omega⟩
      rw [Int.toNat_natCast, ins_get _ j _ (by omega)]
      by_cases c1 : m < j
      · rw [if_pos c1, List.getElem?_eraseIdx]
        by_cases c2 : m < i
        · simp [c1, c2, show ¬ (m : Int) = j from by omega]
        · simp [c1, c2, show ¬ (m : Int) = j from by omega, show ((m : Int) + 1).toNat = m + 1 from by omega, show (0 : Int) ≤ (m : Int) + 1 from by omega]
      · by_cases c2 : m = j
        · simp [c2, hi]
        · rw [if_neg c1, if_neg c2, List.getElem?_eraseIdx]
          by_cases c3 : m - 1 < i
          · simp [c1, c2, c3, show ¬ (m : Int) = j from by omega, show (m : Int) - 1 < i from by omega, show (0 : Int) ≤ (m : Int) - 1 from by omega, show ((m : Int) - 1).toNat = m - 1 from by omega, show (1 : Int) ≤ m from by omega]
          · simp [c1, c2, c3, show ¬ (m : Int) = j from by omega, show ¬ (m : Int) - 1 < i from by omega, show m - 1 + 1 = m from by omega]
    · have c1 : k < j := by omega
      have c2 : k < i := by omega
      simp [hk, c1, c2, show ¬ k = j from by omega]
set_option maxHeartbeats 4000000 in
theorem valid_turn {n : Int} {a b : UInt8} {ai aj bi bj i' j' : Int} {left : Bool} (ha : (a = 4 ∧ 0 ≤ ai ∧ ai ≤ n) ∨ (a = 5 ∧ 0 ≤ ai ∧ ai < n) ∨ (a = 6 ∧ 0 ≤ ai ∧ ai < n) ∨ (a = 7 ∧ 0 ≤ ai ∧ ai < n ∧ 0 ≤ aj ∧ aj < n))
    (hb : (b = 4 ∧ 0 ≤ bi ∧ bi ≤ n) ∨ (b = 5 ∧ 0 ≤ bi ∧ bi < n) ∨ (b = 6 ∧ 0 ≤ bi ∧ bi < n) ∨ (b = 7 ∧ 0 ≤ bi ∧ bi < n ∧ 0 ≤ bj ∧ bj < n)) (h : turnL a ai aj b bi bj left = some (i', j')) :
    (a = 4 ∧ 0 ≤ i' ∧ i' ≤ n + dlen b) ∨ (a = 5 ∧ 0 ≤ i' ∧ i' < n + dlen b) ∨ (a = 6 ∧ 0 ≤ i' ∧ i' < n + dlen b) ∨ (a = 7 ∧ 0 ≤ i' ∧ i' < n + dlen b ∧ 0 ≤ j' ∧ j' < n + dlen b) := by
  rcases ha with ⟨rfl, a1, a2⟩ | ⟨rfl, a1, a2⟩ | ⟨rfl, a1, a2⟩ | ⟨rfl, a1, a2, a3, a4⟩ <;> rcases hb with ⟨rfl, b1, b2⟩ | ⟨rfl, b1, b2⟩ | ⟨rfl, b1, b2⟩ | ⟨rfl, b1, b2, b3, b4⟩
  all_goals
    have hu := fun a b s => up_bd a b s
    by_cases he : ai = bi
    · subst he
      cases left <;> simp [turnL, knownL, gapL, atL, moveL, targetL, up, bl, dlen] at h ⊢ <;> omega
    · have he' : ¬ bi = ai := fun e => he e.symm
      cases left <;> simp [turnL, knownL, gapL, atL, moveL, targetL, up, bl, dlen, he, he'] at h ⊢ <;> omega
theorem done_two {α : Type} (l : List α) (x y : Cm α) (left : Bool) (hx : checkL l.length x.k x.i x.j = 0) (hy : checkL l.length y.k y.i y.j = 0) :
    ∃ p, doneL l (x :: turnC y x left) = some p ∧ (∀ k, Fn p k = match two x.k x.i x.j (turnL y.k y.i y.j x.k x.i x.j left) y.k k with | .inl true => some x.x | .inl false => some y.x | .inr m => Fn l m) ∧ p.length ≤ l.length + 2 := by
  obtain ⟨l1, h1, f1, n1⟩ := do_F l x hx
  have hd : dlen x.k ≤ 1 := by unfold dlen; split; omega; split <;> omega
  cases ht : turnL y.k y.i y.j x.k x.i x.j left with
  | none =>
    refine ⟨l1, by simp [doneL, turnC, h1, ht], fun k => ?_, by omega⟩
    rw [f1]
    simp only [doF, two]
    by_cases hn : isNew x.k x.i k <;> simp [hn]
  | some p =>
    obtain ⟨i', j'⟩ := p
    have hv := valid_turn (n := l.length) (check_ok hy) (check_ok hx) ht
    rw [← n1] at hv
    have hv' : checkL l1.length y.k i' j' = 0 := check_of hv
    obtain ⟨l2, h2, f2, n2⟩ := do_F l1 { y with i := i', j := j' } hv'
    have hd2 : dlen y.k ≤ 1 := by unfold dlen; split; omega; split <;> omega
    simp only at n2
    refine ⟨l2, by simp [doneL, turnC, h1, ht, h2], fun k => ?_, by omega⟩
    rw [f2]
    simp only [doF, two, f1]
    by_cases hn : isNew y.k i' k
    · simp [hn]
    · by_cases hm : isNew x.k x.i (src y.k i' j' k) <;> simp [hn, hm]
theorem tp1 {α : Type} (l : List α) (x y : Cm α) (left : Bool) (hx : checkL l.length x.k x.i x.j = 0) (hy : checkL l.length y.k y.i y.j = 0) :
    ∃ p, doneL l (x :: turnC y x (!left)) = some p ∧ doneL l (y :: turnC x y left) = some p ∧ p.length ≤ l.length + 2 := by
  obtain ⟨p, h1, f1, n1⟩ := done_two l x y (!left) hx hy
  obtain ⟨q, h2, f2, _⟩ := done_two l y x left hy hx
  have kx : x.k = 4 ∨ x.k = 5 ∨ x.k = 6 ∨ x.k = 7 := by rcases check_ok hx with h | h | h | h <;> simp [h.1]
  have ky : y.k = 4 ∨ y.k = 5 ∨ y.k = 6 ∨ y.k = 7 := by rcases check_ok hy with h | h | h | h <;> simp [h.1]
  have : p = q := F_inj fun k => by
    rw [f1, f2, two_all kx ky]
    generalize two y.k y.i y.j (turnL x.k x.i x.j y.k y.i y.j left) x.k k = z
    rcases z with (_ | _) | m <;> rfl
  exact ⟨p, h1, this ▸ h2, n1⟩
end Go.Proofs.Ytimhfkllamimeaa
