/- Package net: the network in memory; New, full, lacks, Send. -/
import Derived.Test.YtjpbfdkpkeaofaaNetA
set_option linter.unusedSimpArgs false
set_option linter.unusedVariables false
namespace Go.Proofs.Ytjpbfdkpkeaofaa
open Go.RowKit
set_option linter.unusedVariables false

/-- The network at block bn, its messages in block g (none: there is no block yet), their bytes in S. -/
def NetAt (w : World) (S : BS) (bn : Nat) (g : Option Nat) (ms : List Mail) : Prop :=
  ∃ va, Blk w bn TNET #[va] ∧ va.ownBlock = g ∧ Own EMail w (bn + 1) TMAIL S va ms ∧ ¬ S bn ∧ ∀ k, g = some k → ¬ S k
/-- What a call of the network may change. -/
abbrev NF (bn : Nat) (g : Option Nat) : Nat → Prop := fun k => k = bn ∨ g = some k

theorem NetAt.keep {F : Nat → Prop} {w w' : World} {S : BS} {bn : Nat} {g : Option Nat} {ms : List Mail} (h : NetAt w S bn g ms) (hk : Keep F w w') (hS : ∀ k, S k → ¬ F k) (hF : ∀ k, NF bn g k → ¬ F k) : NetAt w' S bn g ms := by
  obtain ⟨va, h1, h2, h3, h4, h5⟩ := h
  exact ⟨va, h1.keep hk (hF bn (.inl rfl)), h2, h3.keep EMail.ok hk hS (fun k e => hF k (.inr (h2.symm.trans e))), h4, h5⟩
theorem NetAt.ext {w w' : World} {S : BS} {bn : Nat} {g : Option Nat} {ms : List Mail} (h : NetAt w S bn g ms) (hk : Ext w w') : NetAt w' S bn g ms := h.keep hk (fun _ _ x => x) (fun _ _ x => x)
theorem NetAt.lt {w : World} {S : BS} {bn : Nat} {g : Option Nat} {ms : List Mail} (h : NetAt w S bn g ms) : bn < w.heap.size ∧ ∀ k, g = some k → bn < k ∧ k < w.heap.size := by
  obtain ⟨va, h1, h2, h3, h4, h5⟩ := h
  exact ⟨h1.lt, fun k e => by have := h3.lt (h2.trans e); exact ⟨this.1, this.2⟩⟩

set_option maxHeartbeats 400000 in
theorem full_ok (w : World) (S : BS) (bn : Nat) (g : Option Nat) (ms : List Mail) (b : Bool) (h : NetAt w S bn g ms) (hb : decide (2000 ≤ ms.length) = b) :
    Calls Try.prog 19 #[.pointer (some ⟨bn, 0, none⟩)] w fun e w' => e = .returned (.bool b) ∧ w = w' := by
  obtain ⟨va, h1, h2, h3, h4, h5⟩ := h
  obtain ⟨A, c, rfl, _⟩ := h3.shape
  have c0 := h1.cell 0
  simp at c0
  have hb' : decide (2000 ≤ (ms.length : Int)) = b := by rw [← hb]; simp; omega
  clear h1 h3
  go_enter Try.func19, Try.ntmps19
  go_wp2
  go_ret
  simp [hb']

set_option maxHeartbeats 400000 in
theorem new_ok (w : World) : Calls Try.prog 8 #[] w fun e w' => e = .returned (.pointer (some ⟨w.heap.size, 0, none⟩)) ∧ NetAt w' (fun _ => False) w.heap.size none [] ∧ Ext w w' := by
  have h : NetAt (w.alloc (.cells #[.slice none 0 0] TNET)) (fun _ => False) w.heap.size none [] := ⟨_, Blk.new _ _ _, rfl, Own.nil _ _ _ _, id, fun _ h => by cases h⟩
  have H := hid h
  have hE : Ext w (w.alloc (.cells #[.slice none 0 0] TNET)) := (Keep.refl _ _).alloc _
  clear h
  go_enter Try.func8, Try.ntmps8
  go_wp2
  go_ret
  exact ⟨rfl, H.out, hE⟩

set_option maxHeartbeats 400000 in
theorem lacks_ok (w : World) (S : BS) (bn : Nat) (g : Option Nat) (ms : List Mail) (i : Int) (b : Bool) (h : NetAt w S bn g ms) (hb : decide (i < 0 ∨ (ms.length : Int) ≤ i) = b) :
    Calls Try.prog 21 #[.pointer (some ⟨bn, 0, none⟩), .int .i64 i] w fun e w' => e = .returned (.bool b) ∧ w = w' := by
  obtain ⟨va, h1, h2, h3, h4, h5⟩ := h
  obtain ⟨A, c, rfl, _⟩ := h3.shape
  have c0 := h1.cell 0
  simp at c0
  clear h1 h3
  by_cases hi : i < 0
  · obtain rfl : b = true := by rw [← hb]; simp [hi]
    go_enter Try.func21, Try.ntmps21
    go_wp2
    go_ret
    exact ⟨rfl, rfl⟩
  · have hb' : decide ((ms.length : Int) ≤ i) = b := by rw [← hb]; simp [hi]
    have hi' : 0 ≤ i := by omega
    go_enter Try.func21, Try.ntmps21
    go_wp2
    go_ret
    exact ⟨rfl, rfl⟩
end Go.Proofs.Ytjpbfdkpkeaofaa
