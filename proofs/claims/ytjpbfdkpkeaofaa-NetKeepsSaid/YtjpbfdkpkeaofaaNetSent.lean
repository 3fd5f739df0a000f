/- What a law has sent, beside the net: what stays. -/
import Derived.Test.YtjpbfdkpkeaofaaNetKnown
import Derived.Test.YtjpbfdkpkeaofaaOwnTwo
namespace Go.Proofs.Ytjpbfdkpkeaofaa
open Go.RowKit
set_option linter.unusedVariables false

/-- The net at block bn holds ns; the law's own row va holds ms, their data being the argument's. -/
structure SentS (w0 w : World) (bn : Nat) (S : BS) (g : Option Nat) (va : Value) (ms ns : List Mail) : Prop where
  net : NetAt w S bn g ns
  own : Own EMail w (bn + 1) TMAIL (fun k => k < w0.heap.size) va ms
  ng : ∀ k, va.ownBlock = some k → g ≠ some k
  nS : ∀ k, va.ownBlock = some k → ¬ S k
  gfar : ∀ k, g = some k → w0.heap.size ≤ k
  bfar : w0.heap.size ≤ bn
  ext : Ext w0 w

section
variable {w0 w w' : World} {bn : Nat} {S S' : BS} {g g' : Option Nat} {va va' : Value} {ms ns ms' ns' : List Mail}
theorem SentS.cutS (h : SentS w0 w bn S g va ms ns) : SentS w0 w bn (fun k => S k ∧ k < w.heap.size) g va ms ns :=
  ⟨h.net.cutS, h.own, h.ng, fun k e x => h.nS k e x.1, h.gfar, h.bfar, h.ext⟩
theorem SentS.step_ext (h : SentS w0 w bn S g va ms ns) (he : Ext w w') : SentS w0 w' bn S g va ms ns :=
  ⟨h.net.ext he, h.own.ext EMail.ok he, h.ng, h.nS, h.gfar, h.bfar, h.ext.ext he⟩
theorem SentS.step_net (h : SentS w0 w bn S g va ms ns) (hn : NetAt w' S' bn g' ns') (hg : g' = g ∨ ∃ k, g' = some k ∧ w.heap.size ≤ k) (hS : ∀ k, S' k → S k ∨ w.heap.size ≤ k) (hk : Keep (NF bn g) w w') :
    SentS w0 w' bn S' g' va ms ns' := by
  refine ⟨hn, h.own.keep EMail.ok hk (fun k hk e => ?_) (fun k e x => ?_), fun k e e' => ?_, fun k e x => ?_, fun k e => ?_, h.bfar, h.ext.trans hk fun k hk e => ?_⟩
  · rcases e with rfl | e
    · have := h.bfar; omega
    · have := h.gfar k e; omega
  · rcases x with rfl | x
    · have := (h.own.lt e).1; omega
    · exact h.ng k e x
  · rcases hg with rfl | ⟨k', rfl, hk'⟩
    · exact h.ng k e e'
    · injection e' with e'; have := (h.own.lt e).2; omega
  · rcases hS k x with x | x
    · exact h.nS k e x
    · have := (h.own.lt e).2; omega
  · rcases hg with rfl | ⟨k', rfl, hk'⟩
    · exact h.gfar k e
    · injection e with e; have := h.ext.size; omega
  · rcases e with rfl | e
    · have := h.bfar; omega
    · have := h.gfar k e; omega
theorem SentS.step_own (h : SentS w0 w bn S g va ms ns) (hS : ∀ k, S k → k < w.heap.size) (ho : Own EMail w' (bn + 1) TMAIL (fun k => k < w0.heap.size) va' ms') (hk : Keep (fun k => va.ownBlock = some k) w w')
    (hb : va'.ownBlock = va.ownBlock ∨ va'.ownBlock = some w.heap.size) : SentS w0 w' bn S g va' ms' ns := by
  refine ⟨h.net.keep hk (fun k hs e => h.nS k e hs) (fun k x e => ?_), ho, fun k e e' => ?_, fun k e x => ?_, h.gfar, h.bfar, h.ext.trans hk fun k hk e => ?_⟩
  · rcases x with rfl | x
    · have := (h.own.lt e).1; omega
    · exact h.ng k e x
  · rcases hb with hb | hb
    · exact h.ng k (hb.symm.trans e) e'
    · rw [hb] at e; injection e with e; have := (h.net.lt).2 k e'; omega
  · rcases hb with hb | hb
    · exact h.nS k (hb.symm.trans e) x
    · rw [hb] at e; injection e with e; have := hS k x; omega
  · have := (h.own.lt e).1; have := h.bfar; omega
end
end Go.Proofs.Ytjpbfdkpkeaofaa
