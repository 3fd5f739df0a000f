/- Bytes as a text. -/
import Derived.Test.YtjpbfdkpkeaofaaRows
import Derived.Test.YtjpbfdkpkeaofaaBase
import Derived.Laws.BytesArg
import Derived.WalkKit
set_option linter.unusedSimpArgs false
set_option linter.unusedVariables false
namespace Go.Proofs.Ytjpbfdkpkeaofaa
open Go.RowKit

/-- A text of bytes. -/
def textOf (l : List UInt8) : ByteArray := ⟨l.toArray⟩

theorem nums_text (l : List UInt8) : strOfNums (l.map fun c => (c.toNat : Int)) = textOf l := by
  unfold strOfNums textOf
  rw [List.map_map]
  have : ∀ c ∈ l, ((fun n : Int => UInt8.ofNat n.toNat) ∘ fun c : UInt8 => (c.toNat : Int)) c = c := fun c _ => by simp
  rw [List.map_congr_left this, List.map_id']

/-- 'string(b)'. -/
theorem convert_bytes {w : World} {B : Nat} {v : Value} {l : List UInt8} (h : Bytes w B v l) : (convert 28 9 v).run Try.prog w = .ok (.string (textOf l)) w := by
  obtain ⟨A, c, rfl, h1, h2, h3⟩ := h.open_
  cases A with
  | none =>
    have : l = [] := by
      rcases Nat.eq_zero_or_pos l.length with h0 | h0
      · exact List.eq_nil_of_length_eq_zero h0
      · obtain ⟨b, off, e, _⟩ := h3 h0
        cases e
    subst this
    exact run_convert_bytes_nil w _ _ Try.underlying28 Try.underlying5 0 c _ Try.underlying9
  | some a =>
    rcases Nat.eq_zero_or_pos l.length with h0 | h0
    · have : l = [] := List.eq_nil_of_length_eq_zero h0
      subst this
      have hl : (loadCells a 0).run Try.prog w = .ok (([] : List Int).map (Value.int .u8)).toArray w := by
        have := run_loadCells_list (P := Try.prog) w a [] (fun j v hj => by simp at hj)
        simpa using this
      rw [List.length_nil, run_convert_bytes_string w _ _ _ _ 0 c Try.underlying28 Try.underlying5 Try.underlying9, run_bytesToString w _ 0 c [] hl]
      rfl
    · obtain ⟨b, off, e, hb, hc⟩ := h3 h0
      cases e
      rw [run_convert_bytes_arg w _ _ Try.underlying28 Try.underlying5 b off l.length c (l.map fun c => (c.toNat : Int)) (by simp) (fun i hi => by rw [hc i hi]; simp [List.getD, hi]) _ Try.underlying9, nums_text]
end Go.Proofs.Ytjpbfdkpkeaofaa
