/- val.Field and the reference's Field, by contract. -/
import Derived.Test.YtggkidnlmaindaaDoorValT
import Derived.Test.YtggkidnlmaindaaDoorToks
import Derived.Test.YtggkidnlmaindaaDoorGrowTail
import Derived.Test.YtggkidnlmaindaaDoorGrowAid
import Derived.Laws.Cover1
import Derived.RegionTactic
import Derived.ChangeAlike
set_option linter.unusedSimpArgs false
set_option linter.unusedVariables false
namespace Go.Proofs.YtggkidnlmaindaaDoor
open Go.RowKit
set_option linter.unusedVariables false



/-- Where a key stands, or would stand. -/
def fieldL (o : List F) (key : ByteArray) : Nat := (o.takeWhile fun f => keyLt f.key key).length
/-- Does it stand there? -/
def fieldIs (o : List F) (key : ByteArray) : Bool := match o[fieldL o key]? with | some f => f.key.toList == key.toList | none => false
theorem fieldL_le (o : List F) (key : ByteArray) : fieldL o key ≤ o.length := by
  unfold fieldL
  exact (List.takeWhile_prefix _).length_le
theorem fieldL_at {o : List F} {key : ByteArray} {j : Nat} (hj : j ≤ o.length) (h : ∀ i (hi : i < o.length), i < j → keyLt o[i].key key = true) (h2 : ∀ hj' : j < o.length, keyLt o[j].key key = false) : fieldL o key = j := by
  unfold fieldL
  induction o generalizing j with
  | nil => simp at hj; simp [hj]
  | cons f fs ih =>
    cases j with
    | zero =>
      have := h2 (by simp)
      simp only [List.getElem_cons_zero] at this
      simp [List.takeWhile_cons, this]
    | succ j =>
      have h0 := h 0 (by simp) (by omega)
      simp only [List.getElem_cons_zero] at h0
      rw [List.takeWhile_cons, h0]
      simp only [↓reduceIte, List.length_cons]
      rw [ih (by simpa using hj) (fun i hi hij => by have := h (i + 1) (by simpa using hi) (by omega); simpa using this) (fun hj' => by have := h2 (by simpa using hj'); simpa using this)]
theorem fieldIs_some {o : List F} {key : ByteArray} {j : Nat} (hj : j < o.length) (h : fieldL o key = j) : fieldIs o key = (o[j].key.toList == key.toList) := by
  unfold fieldIs
  rw [h]
  simp [hj]
theorem fieldIs_none {o : List F} {key : ByteArray} (h : fieldL o key = o.length) : fieldIs o key = false := by
  unfold fieldIs
  rw [h]
  simp

/-- A field's cells in sight. -/
theorem EField_cells {w : World} {S : BS} {cs : List Value} {f : F} (h : EField.rd w S cs f) : ∃ lv ov, cs = [.string f.key, U8 f.v.kind, .int .i64 f.v.n, .string f.v.s, lv, ov] ∧ (∃ A c, lv = .slice A f.v.l.length c) ∧ (∃ A c, ov = .slice A f.v.o.length c) ∧ VAt w S (.agg #[U8 f.v.kind, .int .i64 f.v.n, .string f.v.s, lv, ov]) f.v := by
  obtain ⟨c0, rfl, h0⟩ := rdF_iff.1 h
  obtain ⟨lv, ov, rfl, h1, h2⟩ := rdV_iff.1 h0
  obtain ⟨A, c, rfl, _⟩ := h1.shape
  obtain ⟨A', c', rfl, _⟩ := h2.shape
  exact ⟨_, _, rfl, ⟨_, _, rfl⟩, ⟨_, _, rfl⟩, ⟨_, _, rfl, h1, h2⟩⟩

end Go.Proofs.YtggkidnlmaindaaDoor
