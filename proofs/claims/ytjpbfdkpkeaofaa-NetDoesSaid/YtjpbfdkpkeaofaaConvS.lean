/- Bytes as a text: for slices by 'Sl'. -/
import Derived.Test.YtjpbfdkpkeaofaaData
import Derived.Test.YtjpbfdkpkeaofaaConv
set_option linter.unusedSimpArgs false
set_option linter.unusedVariables false
namespace Go.Proofs.Ytjpbfdkpkeaofaa
open Go.RowKit

/-- 'string(b)'. -/
theorem convert_bytesS {w : World} {S : BS} {v : Value} {l : List UInt8} (h : BytesS w S v l) : (convert 28 9 v).run Try.prog w = .ok (.string (textOf l)) w := by
  obtain ⟨A, c, rfl, h1, h2⟩ := h.shape
  rcases Nat.eq_zero_or_pos l.length with h0 | h0
  · have : l = [] := List.eq_nil_of_length_eq_zero h0
    subst this
    cases A with
    | none => exact run_convert_bytes_nil w _ _ Try.underlying28 Try.underlying5 0 c _ Try.underlying9
    | some a =>
      have hl : (loadCells a 0).run Try.prog w = .ok (([] : List Int).map (Value.int .u8)).toArray w := by
        have := run_loadCells_list (P := Try.prog) w a [] (fun j v hj => by simp at hj)
        simpa using this
      rw [List.length_nil, run_convert_bytes_string w _ _ _ _ 0 c Try.underlying28 Try.underlying5 Try.underlying9, run_bytesToString w _ 0 c [] hl]
      rfl
  · obtain ⟨b, off, e, _, _, _⟩ := bytesS_at h h0
    subst e
    rw [run_convert_bytes_arg w _ _ Try.underlying28 Try.underlying5 b off l.length c (l.map fun c => (c.toNat : Int)) (by simp) (fun i hi => by
      obtain ⟨b', off', e', _, _, hc⟩ := bytesS_at h hi
      injection e' with e'; injection e' with e1 e2 _; subst e1 e2
      rw [hc]; simp [List.getD, hi, U8]) _ Try.underlying9, nums_text]
end Go.Proofs.Ytjpbfdkpkeaofaa
