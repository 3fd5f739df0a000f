/- Fields a to e, some of them, are sound. No program. -/
import Derived.Test.YtggkidnlmaindaaDoorProjG
set_option linter.unusedSimpArgs false
set_option linter.unusedVariables false
namespace Go.Proofs.YtggkidnlmaindaaDoor
open Go.RowKit
set_option linter.unusedVariables false

/-- The keys of the law's object. -/
def fiveKeys : List ByteArray := [⟨#[97]⟩, ⟨#[98]⟩, ⟨#[99]⟩, ⟨#[100]⟩, ⟨#[101]⟩]
theorem leB_five {a b : ByteArray} (h : (a, b) ∈ fiveKeys.zip fiveKeys) : True := trivial
theorem psnd_five {ks : List ByteArray} {m : Nat} (h : List.Sublist ks (fiveKeys.take m)) : psnd ks = true := by
  have h5 : List.Sublist ks fiveKeys := h.trans (List.take_sublist _ _)
  have hl : ks.length ≤ 5 := h5.length_le
  have hp : List.Pairwise (fun a b => leB b a = false) fiveKeys := by
    unfold fiveKeys leB
    simp only [ByteArray.toList_eq]
    decide
  have hv : ∀ f ∈ fiveKeys, Lib.validD f.data.toList = true := by
    intro f hf
    apply valid_asc
    refine ⟨fun c hc => ?_, ?_⟩
    · simp only [fiveKeys, List.mem_cons, List.not_mem_nil, or_false] at hf
      rcases hf with rfl | rfl | rfl | rfl | rfl <;> (simp at hc; subst hc; decide)
    · simp only [fiveKeys, List.mem_cons, List.not_mem_nil, or_false] at hf
      rcases hf with rfl | rfl | rfl | rfl | rfl <;> decide
  have hpk := hp.sublist h5
  rw [psnd_good fun i hi => ?_, decide_eq_true (by omega)]
  have hi1 : ks[i]? = some (ks[i]'hi) := List.getElem?_eq_getElem hi
  have hvi := hv _ (h5.subset (List.getElem_mem hi))
  cases i with
  | zero => rw [badAt_zero hi1, hvi]; rfl
  | succ i =>
    have hi2 : ks[i]? = some (ks[i]'(by omega)) := List.getElem?_eq_getElem (by omega)
    rw [badAt_succ hi1 hi2, hvi, List.pairwise_iff_getElem.1 hpk i (i + 1) (by omega) hi (by omega)]
    rfl
end Go.Proofs.YtggkidnlmaindaaDoor
