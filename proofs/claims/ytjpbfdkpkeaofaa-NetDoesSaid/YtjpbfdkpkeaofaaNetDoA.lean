/- The network and the reference's, side by side. -/
import Derived.Test.YtjpbfdkpkeaofaaRNetE
set_option linter.unusedSimpArgs false
set_option linter.unusedVariables false
namespace Go.Proofs.Ytjpbfdkpkeaofaa
open Go.RowKit
set_option linter.unusedVariables false

/-- All blocks but those that hold the networks' own words. -/
abbrev Fr (bn rn : Nat) (g1 g2 : Option Nat) : BS := fun k => k ≠ bn ∧ k ≠ rn ∧ g1 ≠ some k ∧ g2 ≠ some k
structure Pair (w0 w : World) (bn rn : Nat) (g1 g2 : Option Nat) (ms1 ms2 : List Mail) : Prop where
  net : NetAt w (Fr bn rn g1 g2) bn g1 ms1
  ref : RnAt w (Fr bn rn g1 g2) rn g2 ms2
  ap : bn ≠ rn ∧ g1 ≠ some rn ∧ g2 ≠ some bn ∧ ∀ k, g1 = some k → g2 ≠ some k
  low : w0.heap.size ≤ bn ∧ w0.heap.size ≤ rn ∧ (∀ k, g1 = some k → w0.heap.size ≤ k) ∧ ∀ k, g2 = some k → w0.heap.size ≤ k
  ext : Ext w0 w
section
variable {w0 w w' : World} {bn rn : Nat} {g1 g2 g' : Option Nat} {ms1 ms2 ms' : List Mail} {S' : BS}
theorem Pair.more (h : Pair w0 w bn rn g1 g2 ms1 ms2) (he : Ext w w') : Pair w0 w' bn rn g1 g2 ms1 ms2 := ⟨h.net.ext he, h.ref.ext he, h.ap, h.low, h.ext.ext he⟩
/-- A call of the network. -/
theorem Pair.stepN (h : Pair w0 w bn rn g1 g2 ms1 ms2) (hk : Keep (NF bn g1) w w') (hn : NetAt w' S' bn g' ms') (hg : ∀ k, g' = some k → g1 = some k ∨ w.heap.size ≤ k) (hS : ∀ k, k < w'.heap.size → S' k → (Fr bn rn g1 g2 k ∧ k < w.heap.size) ∨ w.heap.size ≤ k) :
    Pair w0 w' bn rn g' g2 ms' ms2 := by
  obtain ⟨a1, a2, a3, a4⟩ := h.ap
  obtain ⟨l1, l2, l3, l4⟩ := h.low
  have hr := h.ref.lt
  have hb := h.net.lt
  have hs := hk.size
  have hs0 := h.ext.size
  refine ⟨hn.more (fun k hk' hs' => ⟨fun e => hn.notS.1 (e ▸ hs'), ?_, fun e => hn.notS.2 k e hs', ?_⟩) (fun x => x.1 rfl) (fun k e x => x.2.2.1 e),
    (h.ref.cutS.keep hk (fun k hk' e => ?_) (fun k hk' e => ?_)).more (fun k _ hk' => ⟨hk'.1.1, hk'.1.2.1, fun e => ?_, hk'.1.2.2.2⟩) (fun x => x.2.1 rfl) (fun k e x => x.2.2.2 e), ⟨a1, fun e => ?_, a3, fun k e e2 => ?_⟩, ⟨l1, l2, fun k e => ?_, l4⟩, h.ext.trans hk fun k hk' e => ?_⟩
  · rintro rfl
    rcases hS k hk' hs' with h | h
    · exact h.1.2.1 rfl
    · omega
  · intro e
    rcases hS k hk' hs' with h | h
    · exact h.1.2.2.2 e
    · have := (hr.2 k e).2; omega
  · rcases e with e | e
    · exact hk'.1.1 e
    · exact hk'.1.2.2.1 e
  · rcases hk' with rfl | hk'
    · rcases e with e | e
      · exact a1 e.symm
      · exact a2 e
    · rcases e with rfl | e
      · exact a3 hk'
      · exact a4 k e hk'
  · rcases hg k e with h | h
    · exact hk'.1.2.2.1 h
    · omega
  · rcases hg rn e with h | h
    · exact a2 h
    · omega
  · rcases hg k e with h | h
    · exact a4 k h e2
    · have := (hr.2 k e2).2; omega
  · rcases hg k e with h | h
    · exact l3 k h
    · omega
  · rcases e with rfl | e
    · omega
    · have := l3 k e; omega
/-- A call of the reference's. -/
theorem Pair.stepR (h : Pair w0 w bn rn g1 g2 ms1 ms2) (hk : Keep (NF rn g2) w w') (hn : RnAt w' S' rn g' ms') (hg : ∀ k, g' = some k → g2 = some k ∨ w.heap.size ≤ k) (hS : ∀ k, k < w'.heap.size → S' k → ((Fr bn rn g1 g2 k ∨ g2 = some k) ∧ k < w.heap.size) ∨ w.heap.size ≤ k) :
    Pair w0 w' bn rn g1 g' ms1 ms' := by
  obtain ⟨a1, a2, a3, a4⟩ := h.ap
  obtain ⟨l1, l2, l3, l4⟩ := h.low
  have hr := h.ref.lt
  have hb := h.net.lt
  have hs := hk.size
  have hs0 := h.ext.size
  refine ⟨(h.net.cutS.keep hk (fun k hk' e => ?_) (fun k hk' e => ?_)).more (fun k _ hk' => ⟨hk'.1.1, hk'.1.2.1, hk'.1.2.2.1, fun e => ?_⟩) (fun x => x.1 rfl) (fun k e x => x.2.2.1 e),
    hn.more (fun k hk' hs' => ⟨?_, fun e => hn.notS.1 (e ▸ hs'), ?_, fun e => hn.notS.2 k e hs'⟩) (fun x => x.2.1 rfl) (fun k e x => x.2.2.2 e), ⟨a1, a2, fun e => ?_, fun k e e2 => ?_⟩, ⟨l1, l2, l3, fun k e => ?_⟩, h.ext.trans hk fun k hk' e => ?_⟩
  · rcases e with e | e
    · exact hk'.1.2.1 e
    · exact hk'.1.2.2.2 e
  · rcases hk' with rfl | hk'
    · rcases e with e | e
      · exact a1 e
      · exact a3 e
    · rcases e with rfl | e
      · exact a2 hk'
      · exact a4 k hk' e
  · rcases hg k e with h | h
    · exact hk'.1.2.2.2 h
    · omega
  · rintro rfl
    rcases hS k hk' hs' with h | h
    · rcases h.1 with h | h
      · exact h.1 rfl
      · exact a3 h
    · omega
  · intro e
    rcases hS k hk' hs' with h | h
    · rcases h.1 with h | h
      · exact h.2.2.1 e
      · exact a4 k e h
    · have := (hb.2 k e).2; omega
  · rcases hg bn e with h | h
    · exact a3 h
    · omega
  · rcases hg k e2 with h | h
    · exact a4 k e h
    · have := (hb.2 k e).2; omega
  · rcases hg k e with h | h
    · exact l4 k h
    · omega
  · rcases e with rfl | e
    · omega
    · have := l4 k e; omega
theorem Pair.stepN0 (h : Pair w0 w bn rn g1 g2 ms1 ms2) (hk : Keep (NF bn g1) w w') (hn : NetAt w' (fun k => Fr bn rn g1 g2 k ∧ k < w.heap.size) bn g1 ms') : Pair w0 w' bn rn g1 g2 ms' ms2 :=
  h.stepN hk hn (fun k e => .inl e) fun k _ hk => .inl hk
theorem Pair.stepN1 (h : Pair w0 w bn rn g1 g2 ms1 ms2) (hk : Keep (NF bn g1) w w') (hn : NetAt w' (SNew w (Fr bn rn g1 g2) g') bn g' ms') (hg : g' = g1 ∨ ∃ k, g' = some k ∧ w.heap.size ≤ k) : Pair w0 w' bn rn g' g2 ms' ms2 :=
  h.stepN hk hn (fun k e => by
    rcases hg with h | ⟨q, h, h2⟩
    · exact .inl (h ▸ e)
    · rw [h] at e; injection e with e; exact .inr (by omega)) fun k _ hk => hk.imp id fun h => h.1
theorem Pair.stepR1 (h : Pair w0 w bn rn g1 g2 ms1 ms2) (hk : Keep (NF rn g2) w w') (hn : RnAt w' (SOld w (Fr bn rn g1 g2) g2 g') rn g' ms') (hg : g' = none ∨ ∃ k, g' = some k ∧ w.heap.size ≤ k) : Pair w0 w' bn rn g1 g' ms1 ms' :=
  h.stepR hk hn (fun k e => by
    rcases hg with h | ⟨q, h, h2⟩
    · rw [h] at e; cases e
    · rw [h] at e; injection e with e; exact .inr (by omega)) fun k _ hk => hk.1
theorem Pair.stepR2 (h : Pair w0 w bn rn g1 g2 ms1 ms2) (hk : Keep (NF rn g2) w w') (hn : RnAt w' (SNew w (Fr bn rn g1 g2) g') rn g' ms') (hg : g' = g2 ∨ ∃ k, g' = some k ∧ w.heap.size ≤ k) : Pair w0 w' bn rn g1 g' ms1 ms' :=
  h.stepR hk hn (fun k e => by
    rcases hg with h | ⟨q, h, h2⟩
    · exact .inl (h ▸ e)
    · rw [h] at e; injection e with e; exact .inr (by omega)) fun k _ hk => hk.imp (fun h => ⟨.inl h.1, h.2⟩) fun h => h.1
end

/-! ### Bytes written where bytes stand -/
/-- Bytes in a block of one's own that may be written. -/
def MutIs (w : World) (A : Option Addr) (n : Nat) : Prop := 0 < n → ∃ g cur, A = some ⟨g, 0, none⟩ ∧ Blk w g 5 cur ∧ ∀ j, j < n → ∃ z : Int, cur[j]? = some (.int .u8 z)
theorem MutIs.of_own {w : World} {base : Nat} {S : BS} {A : Option Addr} {n c : Nat} {l : List UInt8} (h : Own EU8 w base 5 S (.slice A n c) l) (hn : n = l.length) : MutIs w A n := by
  intro h0
  rcases h with ⟨e, rfl⟩ | ⟨g, cap, cur, e, h1, h2, h3, h4, h5, h6⟩
  · simp at hn; omega
  · injection e with e1 e2 e3
    refine ⟨g, cur, e1, h2, fun j hj => ?_⟩
    have hc := cells_U8 h6
    have hjl : j < l.length := by omega
    have h7 : (cur.toList.take (l.length * EU8.size))[j]? = some (U8 (l[j]'hjl)) := by rw [hc, List.getElem?_map, List.getElem?_eq_getElem hjl]; rfl
    rw [List.getElem?_take_of_lt (by show j < l.length * 1; omega)] at h7
    exact ⟨_, by simpa using h7⟩
theorem MutIs.keep {F : Nat → Prop} {w w' : World} {A : Option Addr} {n : Nat} (h : MutIs w A n) (hk : Keep F w w') (hF : ∀ g, A = some ⟨g, 0, none⟩ → ¬ F g) : MutIs w' A n := by
  intro h0
  obtain ⟨g, cur, e, h1, h2⟩ := h h0
  exact ⟨g, cur, e, h1.keep hk (hF g e), h2⟩
theorem MutIs.store {w : World} {g n : Nat} {cur : Array Value} (h1 : Blk w g 5 cur) (h2 : ∀ j, j < n → ∃ z : Int, cur[j]? = some (.int .u8 z)) (i : Nat) (z : Int) : MutIs (w.setCell ⟨g, i, none⟩ (.int .u8 z)) (some ⟨g, 0, none⟩) n := by
  intro _
  refine ⟨g, _, rfl, h1.set_ i _, fun j hj => ?_⟩
  obtain ⟨y, hy⟩ := h2 j hj
  by_cases e : i = j
  · subst e
    have := (Array.getElem?_eq_some_iff.1 hy).1
    exact ⟨z, by simp [this]⟩
  · exact ⟨y, by rw [Array.getElem?_setIfInBounds_ne e]; exact hy⟩
end Go.Proofs.Ytjpbfdkpkeaofaa
