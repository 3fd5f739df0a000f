/- Steps into a value; what stands at a path; what is put there. No program. -/
import Derived.Test.YtggkidnlmaindaaDoorPathA
set_option linter.unusedSimpArgs false
set_option linter.unusedVariables false
namespace Go.Proofs.YtggkidnlmaindaaDoor
open Go.RowKit
set_option linter.unusedVariables false

/-- A step. -/
structure St where
  list : Bool
  i : Int
  key : ByteArray
def ESt : El St := { size := 3, rd := fun _ _ cs s => cs = [.bool s.list, .int .i64 s.i, .string s.key] }
theorem ESt.ok : ESt.Ok where
  pos := by decide
  len := fun h => by subst h; rfl
  one := fun h u hu => by
    subst h
    simp at hu
    rcases hu with rfl | rfl | rfl <;> rfl
  keep := fun h _ _ => h
  more := fun h _ => h
/-- Where a step leads. -/
def stepV (v : V) (s : St) : Option Loc :=
  if s.list then (if v.kind = 4 ∧ 0 ≤ s.i ∧ s.i < v.l.length then some (.l s.i.toNat) else none)
  else if v.kind = 5 ∧ fieldIs v.o s.key = true then some (.o (fieldL v.o s.key)) else none
/-- What stands at a path. -/
def getV : V → List St → Option V
  | v, [] => some v
  | v, s :: p => match stepV v s with
    | none => none
    | some loc => match v.child? loc with
      | none => none
      | some y => getV y p
/-- What is put there. -/
def putV : V → List St → V → Option V
  | _, [], x => some x
  | v, s :: p, x => match stepV v s with
    | none => none
    | some loc => match v.child? loc with
      | none => none
      | some y => (putV y p x).map (v.put loc)
theorem fieldIs_lt {o : List F} {key : ByteArray} (h : fieldIs o key = true) : fieldL o key < o.length := by
  unfold fieldIs at h
  rcases Nat.lt_or_ge (fieldL o key) o.length with h1 | h1
  · exact h1
  · rw [List.getElem?_eq_none h1] at h; cases h
theorem child_l (v : V) (i : Nat) : v.child? (.l i) = v.l[i]? := by cases v; rfl
theorem child_o (v : V) (i : Nat) : v.child? (.o i) = v.o[i]?.map F.v := by cases v; rfl
theorem stepV_l {v : V} {s : St} (hl : s.list = true) : stepV v s = if v.kind = 4 ∧ 0 ≤ s.i ∧ s.i < v.l.length then some (.l s.i.toNat) else none := by unfold stepV; rw [if_pos hl]
theorem stepV_o {v : V} {s : St} (hl : s.list = false) : stepV v s = if v.kind = 5 ∧ fieldIs v.o s.key = true then some (.o (fieldL v.o s.key)) else none := by unfold stepV; rw [if_neg (by simp [hl])]
theorem stepV_child {v : V} {s : St} {loc : Loc} (h : stepV v s = some loc) : ∃ y, v.child? loc = some y := by
  by_cases hl : s.list = true
  · rw [stepV_l hl] at h
    by_cases h1 : v.kind = 4 ∧ 0 ≤ s.i ∧ s.i < v.l.length
    · rw [if_pos h1] at h
      obtain rfl := Option.some.inj h
      exact ⟨v.l[s.i.toNat]'(by omega), by rw [child_l, List.getElem?_eq_getElem]⟩
    · rw [if_neg h1] at h; cases h
  · rw [stepV_o (by simpa using hl)] at h
    by_cases h1 : v.kind = 5 ∧ fieldIs v.o s.key = true
    · rw [if_pos h1] at h
      obtain rfl := Option.some.inj h
      have := fieldIs_lt h1.2
      exact ⟨(v.o[fieldL v.o s.key]).v, by simp [child_o, this]⟩
    · rw [if_neg h1] at h; cases h
theorem getV_snoc : ∀ (p : List St) (v : V) (s : St), getV v (p ++ [s]) = (getV v p).bind fun x => (stepV x s).bind fun loc => x.child? loc
  | [], v, s => by
    simp only [List.nil_append, getV, Option.bind_some]
    cases stepV v s with
    | none => rfl
    | some loc => simp only [Option.bind_some]; cases v.child? loc <;> rfl
  | t :: p, v, s => by
    simp only [List.cons_append, getV]
    cases stepV v t with
    | none => rfl
    | some loc =>
      simp only
      cases v.child? loc with
      | none => rfl
      | some y => exact getV_snoc p y s
theorem getV_append : ∀ (p q : List St) (v : V), getV v (p ++ q) = (getV v p).bind fun x => getV x q
  | [], q, v => by simp [getV]
  | t :: p, q, v => by
    simp only [List.cons_append, getV]
    cases stepV v t with
    | none => rfl
    | some loc =>
      simp only
      cases v.child? loc with
      | none => rfl
      | some y => exact getV_append p q y
theorem putV_append : ∀ (p q : List St) (v z : V), putV v (p ++ q) z = (getV v p).bind fun x => (putV x q z).bind fun y => putV v p y
  | [], q, v, z => by
    simp only [List.nil_append, getV, putV, Option.bind_some]
    cases putV v q z <;> rfl
  | t :: p, q, v, z => by
    simp only [List.cons_append, getV, putV]
    cases stepV v t with
    | none => rfl
    | some loc =>
      simp only
      cases v.child? loc with
      | none => rfl
      | some y =>
        simp only
        rw [putV_append p q y z]
        cases getV y p with
        | none => rfl
        | some x =>
          simp only [Option.bind_some]
          cases putV x q z with
          | none => rfl
          | some y' => rfl
theorem putV_one {v : V} {s : St} {loc : Loc} (h : stepV v s = some loc) (x : V) : putV v [s] x = some (v.put loc x) := by
  obtain ⟨y, hy⟩ := stepV_child h
  simp only [putV, h, hy, Option.map_some]
/-- Where something stands, something can be put. -/
theorem putV_some : ∀ (p : List St) (v x : V), (getV v p).isSome = (putV v p x).isSome
  | [], v, x => rfl
  | t :: p, v, x => by
    simp only [getV, putV]
    cases stepV v t with
    | none => rfl
    | some loc =>
      simp only
      cases v.child? loc with
      | none => rfl
      | some y => simp only [Option.isSome_map]; exact putV_some p y x
end Go.Proofs.YtggkidnlmaindaaDoor
