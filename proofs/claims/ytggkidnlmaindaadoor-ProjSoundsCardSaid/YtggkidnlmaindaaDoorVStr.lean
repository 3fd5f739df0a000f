/- Values whose texts are bounded; weights and depths. No program. -/
import Derived.Test.YtggkidnlmaindaaDoorSoundL
set_option linter.unusedSimpArgs false
set_option linter.unusedVariables false
namespace Go.Proofs.YtggkidnlmaindaaDoor
open Go.RowKit

mutual
/-- No text in it is longer. -/
def VStr (R : Nat) : V → Prop
  | .mk _ _ s l o => s.size ≤ R ∧ VStrs R l ∧ FStrs R o
def VStrs (R : Nat) : List V → Prop
  | [] => True
  | v :: vs => VStr R v ∧ VStrs R vs
def FStr (R : Nat) : F → Prop
  | .mk k v => k.size ≤ R ∧ VStr R v
def FStrs (R : Nat) : List F → Prop
  | [] => True
  | f :: fs => FStr R f ∧ FStrs R fs
end
theorem VStr_iff (R : Nat) (v : V) : VStr R v ↔ v.s.size ≤ R ∧ VStrs R v.l ∧ FStrs R v.o := by cases v; rw [VStr]; exact Iff.rfl
theorem FStr_iff (R : Nat) (f : F) : FStr R f ↔ f.key.size ≤ R ∧ VStr R f.v := by cases f; rw [FStr]; exact Iff.rfl
theorem VStrs_iff (R : Nat) : ∀ (l : List V), VStrs R l ↔ ∀ x ∈ l, VStr R x
  | [] => by simp [VStrs]
  | v :: vs => by rw [VStrs, VStrs_iff R vs]; simp
theorem FStrs_iff (R : Nat) : ∀ (l : List F), FStrs R l ↔ ∀ x ∈ l, FStr R x
  | [] => by simp [FStrs]
  | v :: vs => by rw [FStrs, FStrs_iff R vs]; simp
theorem VStr.s {R : Nat} {x : V} (h : VStr R x) : x.s.size ≤ R := ((VStr_iff R x).1 h).1
theorem VStr.l {R : Nat} {x y : V} (h : VStr R x) (hy : y ∈ x.l) : VStr R y := (VStrs_iff R _).1 ((VStr_iff R x).1 h).2.1 y hy
theorem VStr.o {R : Nat} {x : V} {f : F} (h : VStr R x) (hy : f ∈ x.o) : f.key.size ≤ R ∧ VStr R f.v := (FStr_iff R f).1 ((FStrs_iff R _).1 ((VStr_iff R x).1 h).2.2 f hy)
/-- What the pieces bound. -/
def StrIs (ts : List Tk) (x : V) : Prop := ∀ R, (∀ t ∈ ts, t.s.size ≤ R) → VStr R x
def StrV (ts : List Tk) (xs : List V) : Prop := ∀ x ∈ xs, StrIs ts x
def StrF (ts : List Tk) (xs : List F) : Prop := ∀ f ∈ xs, (∀ R, (∀ t ∈ ts, t.s.size ≤ R) → f.key.size ≤ R) ∧ StrIs ts f.v
theorem StrV.nil (ts : List Tk) : StrV ts [] := fun x h => by simp at h
theorem StrF.nil (ts : List Tk) : StrF ts [] := fun x h => by simp at h
theorem StrIs.sub {ts ts' : List Tk} {x : V} (h : StrIs ts x) (hs : ∀ t ∈ ts, t ∈ ts') : StrIs ts' x := fun R hR => h R fun t ht => hR t (hs t ht)
theorem StrIs.key {ts : List Tk} {x : V} (h : StrIs ts x) : ∀ R, (∀ t ∈ ts, t.s.size ≤ R) → x.s.size ≤ R := fun R hR => (h R hR).s
theorem StrV.snoc {ts : List Tk} {xs : List V} {x : V} (h : StrV ts xs) (hx : StrIs ts x) : StrV ts (xs ++ [x]) := fun y hy => by
  rcases List.mem_append.1 hy with hy | hy
  · exact h y hy
  · rw [List.mem_singleton.1 hy]; exact hx
theorem StrF.snoc {ts : List Tk} {xs : List F} {x : V} (h : StrF ts xs) (hx : StrIs ts x) : StrF ts (xs ++ [F.mk x.s x]) := fun y hy => by
  rcases List.mem_append.1 hy with hy | hy
  · exact h y hy
  · rw [List.mem_singleton.1 hy]; exact ⟨hx.key, hx⟩
theorem StrIs.mkV {ts : List Tk} {k : UInt8} {n : Int} {s : ByteArray} {xs : List V} (hs : ∀ R, (∀ t ∈ ts, t.s.size ≤ R) → s.size ≤ R) (h : StrV ts xs) : StrIs ts (.mk k n s xs []) := fun R hR => by
  rw [VStr]; exact ⟨hs R hR, (VStrs_iff R _).2 fun x hx => h x hx R hR, by rw [FStrs]; trivial⟩
theorem StrIs.mkF {ts : List Tk} {k : UInt8} {n : Int} {s : ByteArray} {xs : List F} (hs : ∀ R, (∀ t ∈ ts, t.s.size ≤ R) → s.size ≤ R) (h : StrF ts xs) : StrIs ts (.mk k n s [] xs) := fun R hR => by
  rw [VStr]; exact ⟨hs R hR, by rw [VStrs]; trivial, (FStrs_iff R _).2 fun x hx => (FStr_iff R x).2 ⟨(h x hx).1 R hR, (h x hx).2 R hR⟩⟩
mutual
theorem SV.str : ∀ (v : V), SV v → VStr 300 v
  | .mk k n s l o, h => by
    rw [SV] at h
    rw [VStr]
    refine ⟨?_, SVs.str l h.2.1, SFs.str o h.2.2.1⟩
    rcases h.1 with h | h | h | h | h | h
    · rw [h.2.2.1]; decide
    · rw [h.2.2.1]; decide
    · rw [h.2.1]; decide
    · exact h.2.2.1.2
    · rw [h.2.2.1]; decide
    · rw [h.2.2.1]; decide
theorem SVs.str : ∀ (l : List V), SVs l → VStrs 300 l
  | [], _ => by rw [VStrs]; trivial
  | v :: vs, h => by rw [SVs] at h; rw [VStrs]; exact ⟨SV.str v h.1, SVs.str vs h.2⟩
theorem SF.str : ∀ (f : F), SF f → FStr 300 f
  | .mk k v, h => by rw [SF] at h; rw [FStr]; exact ⟨h.1.2, SV.str v h.2⟩
theorem SFs.str : ∀ (l : List F), SFs l → FStrs 300 l
  | [], _ => by rw [FStrs]; trivial
  | v :: vs, h => by rw [SFs] at h; rw [FStrs]; exact ⟨SF.str v h.1, SFs.str vs h.2⟩
end

/-! ### Weight and depth -/
mutual
def V.weight : V → Nat
  | .mk _ _ s l o => 1 + s.size + (V.weights l + F.weights o)
def V.weights : List V → Nat
  | [] => 0
  | v :: vs => v.weight + V.weights vs
def F.weight : F → Nat
  | .mk k v => k.size + v.weight
def F.weights : List F → Nat
  | [] => 0
  | f :: fs => f.weight + F.weights fs
end
mutual
def V.deep : V → Nat
  | .mk _ _ _ l o => max (V.deeps l) (F.deeps o)
def V.deeps : List V → Nat
  | [] => 0
  | v :: vs => max (v.deep + 1) (V.deeps vs)
def F.deep : F → Nat
  | .mk _ v => v.deep + 1
def F.deeps : List F → Nat
  | [] => 0
  | f :: fs => max f.deep (F.deeps fs)
end
theorem V.weight_eq (v : V) : v.weight = 1 + v.s.size + (V.weights v.l + F.weights v.o) := by cases v; rw [V.weight]; rfl
theorem F.weight_eq (f : F) : f.weight = f.key.size + f.v.weight := by cases f; rw [F.weight]; rfl
theorem V.deep_eq (v : V) : v.deep = max (V.deeps v.l) (F.deeps v.o) := by cases v; rw [V.deep]; rfl
theorem F.deep_eq (f : F) : f.deep = f.v.deep + 1 := by cases f; rw [F.deep]; rfl
theorem V.weights_append : ∀ a b : List V, V.weights (a ++ b) = V.weights a + V.weights b
  | [], b => by simp [V.weights]
  | v :: vs, b => by rw [List.cons_append, V.weights, V.weights, V.weights_append vs b]; omega
theorem F.weights_append : ∀ a b : List F, F.weights (a ++ b) = F.weights a + F.weights b
  | [], b => by simp [F.weights]
  | v :: vs, b => by rw [List.cons_append, F.weights, F.weights, F.weights_append vs b]; omega
theorem V.deeps_append : ∀ a b : List V, V.deeps (a ++ b) = max (V.deeps a) (V.deeps b)
  | [], b => by simp [V.deeps]
  | v :: vs, b => by rw [List.cons_append, V.deeps, V.deeps, V.deeps_append vs b]; omega
theorem F.deeps_append : ∀ a b : List F, F.deeps (a ++ b) = max (F.deeps a) (F.deeps b)
  | [], b => by simp [F.deeps]
  | v :: vs, b => by rw [List.cons_append, F.deeps, F.deeps, F.deeps_append vs b]; omega
theorem V.weights_one (v : V) : V.weights [v] = v.weight := by simp [V.weights]
theorem F.weights_one (v : F) : F.weights [v] = v.weight := by simp [F.weights]
theorem V.deeps_one (v : V) : V.deeps [v] = v.deep + 1 := by simp [V.deeps]
theorem F.deeps_one (v : F) : F.deeps [v] = v.deep := by simp [F.deeps]
theorem V.weights_take (l : List V) (k : Nat) : V.weights (l.take k) ≤ V.weights l := by
  have := V.weights_append (l.take k) (l.drop k)
  rw [List.take_append_drop] at this
  omega
theorem F.weights_take (l : List F) (k : Nat) : F.weights (l.take k) ≤ F.weights l := by
  have := F.weights_append (l.take k) (l.drop k)
  rw [List.take_append_drop] at this
  omega
mutual
theorem V.weight_le (R : Nat) : ∀ v : V, VStr R v → v.weight + R ≤ (2 * R + 1) * v.size
  | .mk k n s l o, h => by
    rw [VStr] at h
    have h1 := V.weights_le R l h.2.1
    have h2 := F.weights_le R o h.2.2
    rw [V.weight, V.size, Nat.mul_add, Nat.mul_add, Nat.mul_one]
    omega
theorem V.weights_le (R : Nat) : ∀ l : List V, VStrs R l → V.weights l ≤ (2 * R + 1) * V.sizes l
  | [], _ => by simp [V.weights]
  | v :: vs, h => by
    rw [VStrs] at h
    have h1 := V.weight_le R v h.1
    have h2 := V.weights_le R vs h.2
    rw [V.weights, V.sizes, Nat.mul_add]; omega
theorem F.weight_le (R : Nat) : ∀ f : F, FStr R f → f.weight ≤ (2 * R + 1) * f.size
  | .mk k v, h => by
    rw [FStr] at h
    have h1 := V.weight_le R v h.2
    rw [F.weight, F.size]; omega
theorem F.weights_le (R : Nat) : ∀ l : List F, FStrs R l → F.weights l ≤ (2 * R + 1) * F.sizes l
  | [], _ => by simp [F.weights]
  | f :: fs, h => by
    rw [FStrs] at h
    have h1 := F.weight_le R f h.1
    have h2 := F.weights_le R fs h.2
    rw [F.weights, F.sizes, Nat.mul_add]; omega
end
end Go.Proofs.YtggkidnlmaindaaDoor
