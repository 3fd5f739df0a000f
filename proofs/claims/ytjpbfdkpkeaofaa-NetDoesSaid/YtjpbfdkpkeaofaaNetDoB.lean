/- The network and the reference's: one call on each, in a region that draws. -/
import Derived.Test.YtjpbfdkpkeaofaaNetDoA
import Derived.Test.YtjpbfdkpkeaofaaGrowU
set_option linter.unusedSimpArgs false
set_option linter.unusedVariables false
namespace Go.Proofs.Ytjpbfdkpkeaofaa
open Go.RowKit
set_option linter.unusedVariables false

section
variable (W : World) (bn rn : Nat) (g1 g2 : Option Nat) (new : List Mail)
/-- Behind the network's call. -/
def HalfN (w : World) : Prop := ∃ a1 S1, NetAt w S1 bn a1 new ∧ (∀ k, a1 = some k → g1 = some k ∨ W.heap.size ≤ k) ∧ ∀ k, S1 k → (Fr bn rn g1 g2 k ∧ k < W.heap.size) ∨ W.heap.size ≤ k
/-- Behind both. -/
def PBoth (w : World) : Prop := ∃ a1 a2 S1 S2, NetAt w S1 bn a1 new ∧ RnAt w S2 rn a2 new ∧ (∀ k, a1 = some k → g1 = some k ∨ W.heap.size ≤ k) ∧ (∀ k, S1 k → (Fr bn rn g1 g2 k ∧ k < W.heap.size) ∨ W.heap.size ≤ k) ∧
  (∀ k, a2 = some k → g2 = some k ∨ W.heap.size ≤ k) ∧ (∀ k, S2 k → ((Fr bn rn g1 g2 k ∨ g2 = some k) ∧ k < W.heap.size) ∨ W.heap.size ≤ k) ∧ (∀ k, a1 = some k → a2 ≠ some k) ∧ (∀ k, a1 = some k → ¬ S2 k) ∧ ∀ k, a2 = some k → ¬ S1 k
/-- What the network's call leaves. -/
def NPost (w : World) (w' : World) : Prop := ∃ a1, NetAt w' (SNew w (fun k => Fr bn rn g1 g2 k ∧ k < W.heap.size) a1) bn a1 new ∧ (a1 = g1 ∨ ∃ k, a1 = some k ∧ w.heap.size ≤ k) ∧ Keep (NF bn g1) w w'
/-- What the reference's call leaves. -/
def RPost (w : World) (w' : World) : Prop := ∃ a2, RnAt w' (SOld w (fun k => Fr bn rn g1 g2 k ∧ k < W.heap.size) g2 a2) rn a2 new ∧ (a2 = none ∨ ∃ k, a2 = some k ∧ w.heap.size ≤ k) ∧ Keep (NF rn g2) w w'
end
section
variable {W w0 w w' : World} {bn rn : Nat} {g1 g2 : Option Nat} {old new : List Mail}
structure Low (W : World) (bn rn : Nat) (g1 g2 : Option Nat) : Prop where
  ap : bn ≠ rn ∧ g1 ≠ some rn ∧ g2 ≠ some bn ∧ ∀ k, g1 = some k → g2 ≠ some k
  bn : bn < W.heap.size
  rn : rn < W.heap.size
  g1 : ∀ k, g1 = some k → k < W.heap.size
  g2 : ∀ k, g2 = some k → k < W.heap.size
theorem Pair.lw (h : Pair w0 W bn rn g1 g2 old new) : Low W bn rn g1 g2 := ⟨h.ap, h.net.lt.1, h.ref.lt.1, fun k e => (h.net.lt.2 k e).2, fun k e => (h.ref.lt.2 k e).2⟩
theorem NPost.of_same (L : Low W bn rn g1 g2) (hn : NetAt w' (fun k => Fr bn rn g1 g2 k ∧ k < W.heap.size) bn g1 new) (hs : W.heap.size ≤ w.heap.size) (hk : Keep (NF bn g1) w w') : NPost W bn rn g1 g2 new w w' :=
  ⟨g1, hn.more (fun k _ h => .inl ⟨h, by omega⟩) (fun h => by
    rcases h with h | h
    · exact hn.notS.1 h.1
    · have := L.bn; omega) (fun k e h => by
    rcases h with h | h
    · exact hn.notS.2 k e h.1
    · exact h.2 e), .inl rfl, hk⟩
theorem PBoth.one (h : PBoth W bn rn g1 g2 new w) (L : Low W bn rn g1 g2) (hs : W.heap.size ≤ w.heap.size) (hp : NPost W bn rn g1 g2 new w w') : PBoth W bn rn g1 g2 new w' := by
  obtain ⟨a1, a2, S1, S2, hn, hr, c1, c2, c3, c4, c5, c6, c7⟩ := h
  obtain ⟨b1, hn', hb, hk⟩ := hp
  obtain ⟨p1, p2, p3, p4⟩ := L.ap
  have l1 := L.bn
  have l2 := L.rn
  have hk1 := hk.size
  have hx : ∀ k, S2 k → k ≠ bn ∧ g1 ≠ some k := fun k hk => by
    rcases c4 k hk with h | h
    · rcases h.1 with h1 | h1
      · exact ⟨h1.1, h1.2.2.1⟩
      · exact ⟨fun e => p3 (e ▸ h1), fun e => p4 k e h1⟩
    · exact ⟨by omega, fun e => by have := L.g1 k e; omega⟩
  have ha : ∀ k, a2 = some k → k ≠ bn ∧ g1 ≠ some k := fun k hk => by
    rcases c3 k hk with h | h
    · exact ⟨fun e => p3 (e ▸ h), fun e => p4 k e h⟩
    · exact ⟨by omega, fun e => by have := L.g1 k e; omega⟩
  refine ⟨b1, a2, _, _, hn', hr.cutS.keep hk (fun k h e => ?_) (fun k h e => ?_), fun k e => ?_, fun k h => ?_, c3, fun k h => c4 k h.1, fun k e e2 => ?_, fun k e h => ?_, fun k e h => ?_⟩
  · have := hx k h.1
    exact e.elim this.1 this.2
  · rcases h with h | h
    · rcases e with e | e
      · exact p1 (e.symm.trans h)
      · exact p2 (h ▸ e)
    · have := ha k h
      exact e.elim this.1 this.2
  · rcases hb with h | ⟨q, h, h2⟩
    · exact .inl (h ▸ e)
    · rw [h] at e; injection e with e; exact .inr (by omega)
  · rcases h with h | h
    · exact .inl h.1
    · exact .inr (by omega)
  · rcases hb with h | ⟨q, h, h2⟩
    · exact (ha k e2).2 (h ▸ e)
    · rw [h] at e; injection e with e; have := (hr.lt.2 k e2).2; omega
  · rcases hb with h1 | ⟨q, h1, h2⟩
    · exact (hx k h.1).2 (h1 ▸ e)
    · rw [h1] at e; injection e with e; have := h.2; omega
  · rcases h with h | h
    · rcases c3 k e with h1 | h1
      · exact h.1.1.2.2.2 h1
      · have := h.1.2; omega
    · have := (hr.lt.2 k e).2; omega
theorem HalfN.two (h : HalfN W bn rn g1 g2 new w) (L : Low W bn rn g1 g2) (hs : W.heap.size ≤ w.heap.size) (hp : RPost W bn rn g1 g2 new w w') : PBoth W bn rn g1 g2 new w' := by
  obtain ⟨a1, S1, hn, c1, c2⟩ := h
  obtain ⟨b2, hr', hb, hk⟩ := hp
  obtain ⟨p1, p2, p3, p4⟩ := L.ap
  have l1 := L.bn
  have l2 := L.rn
  have hk1 := hk.size
  have ha : ∀ k, a1 = some k → k ≠ rn ∧ g2 ≠ some k := fun k hk => by
    rcases c1 k hk with h | h
    · exact ⟨fun e => p2 (e ▸ h), p4 k h⟩
    · exact ⟨by omega, fun e => by have := L.g2 k e; omega⟩
  have hx : ∀ k, S1 k → k ≠ rn ∧ g2 ≠ some k := fun k hk => by
    rcases c2 k hk with h | h
    · exact ⟨h.1.2.1, h.1.2.2.2⟩
    · exact ⟨by omega, fun e => by have := L.g2 k e; omega⟩
  refine ⟨a1, b2, _, _, hn.cutS.keep hk (fun k h e => ?_) (fun k h e => ?_), hr', c1, fun k h => c2 k h.1, fun k e => ?_, fun k h => ?_, fun k e e2 => ?_, fun k e h => ?_, fun k e h => ?_⟩
  · have := hx k h.1
    exact e.elim this.1 this.2
  · rcases h with h | h
    · rcases e with e | e
      · exact p1 (h.symm.trans e)
      · exact p3 (h ▸ e)
    · have := ha k h
      exact e.elim this.1 this.2
  · rcases hb with h | ⟨q, h, h2⟩
    · rw [h] at e; cases e
    · rw [h] at e; injection e with e; exact .inr (by omega)
  · rcases h.1 with h | h
    · rcases h.1 with h1 | h1
      · exact .inl ⟨.inl h1.1, h1.2⟩
      · exact .inl ⟨.inr h1, L.g2 k h1⟩
    · exact .inr (by omega)
  · rcases hb with h | ⟨q, h, h2⟩
    · rw [h] at e2; cases e2
    · rw [h] at e2; injection e2 with e2; have := (hn.lt.2 k e).2; omega
  · have hlt := (hn.lt.2 k e).2
    rcases h.1 with h | h
    · rcases h.1 with h1 | h1
      · rcases c1 k e with h2 | h2
        · exact h1.1.2.2.1 h2
        · have := h1.2; omega
      · exact (ha k e).2 h1
    · omega
  · rcases hb with h1 | ⟨q, h1, h2⟩
    · rw [h1] at e; cases e
    · rw [h1] at e; injection e with e; have := h.2; omega
theorem PBoth.pair (h : PBoth W bn rn g1 g2 new w) (HP : Pair w0 W bn rn g1 g2 old old) (he : Ext w0 w) : ∃ a1 a2, Pair w0 w bn rn a1 a2 new new := by
  obtain ⟨a1, a2, S1, S2, hn, hr, c1, c2, c3, c4, c5, c6, c7⟩ := h
  have L := HP.lw
  obtain ⟨p1, p2, p3, p4⟩ := L.ap
  obtain ⟨q1, q2, q3, q4⟩ := HP.low
  have l1 := L.bn
  have l2 := L.rn
  have h0 := HP.ext.size
  refine ⟨a1, a2, hn.more (fun k _ h => ⟨fun e => hn.notS.1 (e ▸ h), ?_, fun e => hn.notS.2 k e h, fun e => c7 k e h⟩) (fun x => x.1 rfl) (fun k e x => x.2.2.1 e),
    hr.more (fun k _ h => ⟨?_, fun e => hr.notS.1 (e ▸ h), fun e => c6 k e h, fun e => hr.notS.2 k e h⟩) (fun x => x.2.1 rfl) (fun k e x => x.2.2.2 e), ⟨p1, fun e => ?_, fun e => ?_, c5⟩, ⟨q1, q2, fun k e => ?_, fun k e => ?_⟩, he⟩
  · rcases c2 k h with h | h
    · exact h.1.2.1
    · omega
  · rcases c4 k h with h | h
    · rcases h.1 with h1 | h1
      · exact h1.1
      · exact fun e => p3 (e ▸ h1)
    · omega
  · rcases c1 rn e with h | h
    · exact p2 h
    · omega
  · rcases c3 bn e with h | h
    · exact p3 h
    · omega
  · rcases c1 k e with h | h
    · exact q3 k h
    · omega
  · rcases c3 k e with h | h
    · exact q4 k h
    · omega
theorem HalfN.keepR {F : Nat → Prop} (h : HalfN W bn rn g1 g2 new w) (L : Low W bn rn g1 g2) (hk : Keep F w w') (hF : ∀ k, F k → NF rn g2 k) : HalfN W bn rn g1 g2 new w' := by
  obtain ⟨a1, S1, hn, c1, c2⟩ := h
  obtain ⟨p1, p2, p3, p4⟩ := L.ap
  have l1 := L.bn
  have l2 := L.rn
  refine ⟨a1, S1, hn.keep hk (fun k h e => ?_) (fun k h e => ?_), c1, c2⟩
  · rcases c2 k h with h | h
    · exact (hF k e).elim h.1.2.1 h.1.2.2.2
    · rcases hF k e with e | e
      · omega
      · have := L.g2 k e; omega
  · rcases h with h | h
    · rcases hF k e with e | e
      · exact p1 (h.symm.trans e)
      · exact p3 (h ▸ e)
    · rcases c1 k h with h1 | h1
      · rcases hF k e with e | e
        · exact p2 (e ▸ h1)
        · exact p4 k h1 e
      · rcases hF k e with e | e
        · omega
        · have := L.g2 k e; omega
theorem PBoth.keep {F : Nat → Prop} (h : PBoth W bn rn g1 g2 new w) (hk : Keep F w w') (hF : ∀ k, ¬ F k) : PBoth W bn rn g1 g2 new w' := by
  have he : Ext w w' := hk.mono fun k _ h => (hF k h).elim
  obtain ⟨a1, a2, S1, S2, hn, hr, c⟩ := h
  exact ⟨a1, a2, S1, S2, hn.ext he, hr.ext he, c⟩
end
end Go.Proofs.Ytjpbfdkpkeaofaa
