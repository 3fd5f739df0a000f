/- 's[lo:hi]' in a walk: the run as one equation, the cut slice under a name. No program. -/
import Derived.Test.YtjpbfdkpkeaofaaOwn
import Derived.WalkKit
set_option linter.unusedSimpArgs false
set_option linter.unusedVariables false
namespace Go.Proofs.Ytjpbfdkpkeaofaa
open Go.RowKit

section
variable {P : Program} {α : Type} {E : El α} {w : World} {S : BS} {t T : TypeId} {A : Option Addr} {n c : Nat} {xs : List α} {bytes : Nat}

theorem elem_of (h : P.underlying t = some (.slice T)) : P.elem t = T := by unfold Program.elem; rw [h]
theorem size_of (ht : TyInfo P t T E.size bytes) (w : World) : (sizeOf T).run P w = .ok E.size w := by
  obtain ⟨i, z, hi, hz, hsize, hby, hzs⟩ := ht.info
  simp [sizeOf, typeInfo, hi, hsize]

/-- 's[a:b]'. -/
theorem run_cut (ht : TyInfo P t T E.size bytes) (lo hi : Nat) {a b : Int} (ha : a = lo) (hb : b = hi) (h1 : lo ≤ hi) (h2 : hi ≤ c) (w : World) :
    (Instr.sliceAt t (.slice A n c) (some (.int .i64 a)) (some (.int .i64 b)) none).run P w = .ok (.slice (if c = lo then A else A.map (·.add (lo * E.size))) (hi - lo) (c - lo)) w := by
  subst ha hb
  have hu : P.underlying t = some (.slice (P.elem t)) := by rw [elem_of ht.under]; exact ht.under
  rw [run_sliceAt_slice (h := hu), run_slice_lh (ht := hu), elem_of ht.under, size_of ht]
  · simp [Result.andThen, sliced]
  all_goals omega
/-- 's[a:]'. -/
theorem run_tail (ht : TyInfo P t T E.size bytes) (lo : Nat) {a : Int} (ha : a = lo) (h1 : lo ≤ n) (w : World) :
    (Instr.sliceAt t (.slice A n c) (some (.int .i64 a)) none none).run P w = .ok (.slice (if c = lo then A else A.map (·.add (lo * E.size))) (n - lo) (c - lo)) w := by
  subst ha
  have hu : P.underlying t = some (.slice (P.elem t)) := by rw [elem_of ht.under]; exact ht.under
  rw [run_sliceAt_slice (h := hu), run_slice_l (ht := hu), elem_of ht.under, size_of ht]
  · simp [Result.andThen, sliced]
  all_goals omega
/-- 's[:b]'. -/
theorem run_front (ht : TyInfo P t T E.size bytes) (hi : Nat) {b : Int} (hb : b = hi) (h2 : hi ≤ c) (w : World) :
    (Instr.sliceAt t (.slice A n c) none (some (.int .i64 b)) none).run P w = .ok (.slice A hi c) w := by
  subst hb
  have hu : P.underlying t = some (.slice (P.elem t)) := by rw [elem_of ht.under]; exact ht.under
  rw [run_sliceAt_slice (h := hu), run_slice_h (ht := hu), elem_of ht.under, size_of ht]
  · have e : (fun x : Addr => x.add 0) = id := by funext x; simp [Addr.add]
    simp [Result.andThen, sliced, e]
  all_goals omega

/-- The cut slice under a name. -/
theorem cut_fact (hE : E.Ok) (ht : TyInfo P t T E.size bytes) (h : Sl E w S (.slice A n c) xs) {lo hi : Nat} {a b : Int} (ha : a = lo) (hb : b = hi) (h1 : lo ≤ hi) (h2 : hi ≤ xs.length) :
    ∃ A', (∀ w', (Instr.sliceAt t (.slice A n c) (some (.int .i64 a)) (some (.int .i64 b)) none).run P w' = .ok (.slice A' (hi - lo) (c - lo)) w') ∧ Sl E w S (.slice A' (hi - lo) (c - lo)) ((xs.take hi).drop lo) := by
  obtain ⟨A', c', e, hl, _⟩ := h.shape
  injection e with _ _ e3
  subst e3
  exact ⟨_, fun w' => run_cut ht lo hi ha hb h1 (by omega) w', h.cut hE h1 h2⟩
theorem tail_fact (hE : E.Ok) (ht : TyInfo P t T E.size bytes) (h : Sl E w S (.slice A n c) xs) {lo : Nat} {a : Int} (ha : a = lo) (h1 : lo ≤ xs.length) :
    ∃ A', (∀ w', (Instr.sliceAt t (.slice A n c) (some (.int .i64 a)) none none).run P w' = .ok (.slice A' (n - lo) (c - lo)) w') ∧ Sl E w S (.slice A' (n - lo) (c - lo)) (xs.drop lo) := by
  obtain ⟨A', c', e, hl, _⟩ := h.shape
  injection e with _ e2 e3
  subst e2 e3
  have := h.cut hE h1 (Nat.le_refl _)
  rw [List.take_length] at this
  exact ⟨_, fun w' => run_tail ht lo ha h1 w', this⟩
theorem front_fact (hE : E.Ok) (ht : TyInfo P t T E.size bytes) (h : Sl E w S (.slice A n c) xs) {hi : Nat} {b : Int} (hb : b = hi) (h1 : hi ≤ xs.length) :
    (∀ w', (Instr.sliceAt t (.slice A n c) none (some (.int .i64 b)) none).run P w' = .ok (.slice A hi c) w') ∧ Sl E w S (.slice A hi c) (xs.take hi) := by
  obtain ⟨A', c', e, hl, _⟩ := h.shape
  injection e with _ e2 e3
  subst e2 e3
  exact ⟨fun w' => run_front ht hi hb (by omega) w', h.front hE h1⟩
end
end Go.Proofs.Ytjpbfdkpkeaofaa
