/- As 'wp_region_parts', with a third tail: operations that hang on no world and cannot fail ('extract', 'assign' ..), whatever their order. -/
import Derived.Test.YtggkidnlmaindaaDoorGrowTail
set_option linter.unusedSimpArgs false
set_option linter.unusedVariables false
namespace Go.Proofs.YtggkidnlmaindaaDoor
open Go.RowKit

section
variable {P : Program} {ops : Array Oper} {C : World → Prop} {S : Spec}

/-- Then the operations p3, then Q. -/
def Then (P : Program) (ops : Array Oper) (p3 : List Nat) (Q : Exit → Act → World → Prop) : Exit → Act → World → Prop
  | .normal, a, w => wpPure P ops (fun a' => Q .normal a' w) p3 a
  | e, a, w => Q e a w
theorem Then.normal {p3 : List Nat} {Q : Exit → Act → World → Prop} {a : Act} {w : World} (h : wpPure P ops (fun a' => Q .normal a' w) p3 a) : Then P ops p3 Q .normal a w := h
theorem Oper.wp_exits {o : Oper} {a : Act} {w : World} {K K' : Act → World → Prop} {Q Q' : Exit → Act → World → Prop} (hQ : ∀ e a w, e ≠ .normal → Q e a w → Q' e a w) (h : ∀ a w, K a w → K' a w) (hh : o.wp P a w K Q) : o.wp P a w K' Q' := by
  unfold Oper.wp at *
  generalize (execOp a.eval o).run P w = r at *
  cases r with
  | ok n w' =>
    cases n <;> simp only [Oper.upon] at hh ⊢ <;>
      first
        | exact h _ _ hh
        | exact Calls.mono hh (fun e w'' he => by
            cases e with
            | returned v => exact h _ _ he
            | panicked c => exact hQ _ _ _ (by simp) he
            | outgrown => obtain ⟨a, w, he⟩ := he; exact ⟨a, w, hQ _ _ _ (by simp) he⟩)
        | exact Rows.mono hh (fun _ _ he => h _ _ he)
  | halt x w' => cases x <;> simp only [Oper.upon] at hh ⊢ <;> first | exact hh | exact hQ _ _ _ (by simp) hh
theorem wpOp_exits {i : Nat} {a : Act} {w : World} {K K' : Act → World → Prop} {Q Q' : Exit → Act → World → Prop} (hQ : ∀ e a w, e ≠ .normal → Q e a w → Q' e a w) (h : ∀ a w, K a w → K' a w) (hh : wpOp P ops Q i K a w) : wpOp P ops Q' i K' a w := by
  unfold wpOp at *
  split
  · exact h _ _ (by simpa [*] using hh)
  · rename_i o ho
    simp only [ho] at hh
    split
    · rename_i hw
      simp only [hw, if_true] at hh
      exact hh.imp (Oper.wp_exits hQ h) fun ⟨h1, a, w, h2⟩ => ⟨h1, a, w, hQ _ _ _ (by simp) h2⟩
    · rename_i hw; simp only [hw] at hh; exact h _ _ hh

/-- One behind the other, and then what else. -/
def forcedTo (ops : Array Oper) : List Nat → Array Bool → Bool
  | [], _ => true
  | k :: p, listed => Region.ready .any ops listed == [k] && forcedTo ops p (listed.setIfInBounds k true)
theorem wpAny_then {Q : Exit → Act → World → Prop} {p3 : List Nat} (hs : Region.noSelect ops = true) (hnp : ∀ c a w, ¬ Q (.panic c) a w) : ∀ (p : List Nat) (listed : Array Bool) (a : Act) (w : World), forcedTo ops p listed = true → firstB ops p3 (p.foldl (fun l i => l.setIfInBounds i true) listed) = true →
    Region.ready .any ops (p3.foldl (fun l i => l.setIfInBounds i true) (p.foldl (fun l i => l.setIfInBounds i true) listed)) = [] → wpOps P ops (Then P ops p3 Q) p a w → wpAny P .any ops Q (p3.length + p.length) listed a w
  | [], listed, a, w, _, hB, hr, h => by
    have := wpAny_pure (P := P) (Q' := Q) (w := w) hs hnp 0 p3 listed a hB (Q := fun a' => Q .normal a' w) h fun a' ha' => ⟨hr, ha'⟩
    simpa using this
  | k :: p, listed, a, w, hF, hB, hr, h => by
    simp only [forcedTo, Bool.and_eq_true, beq_iff_eq] at hF
    refine ⟨fun h0 => (by rw [hF.1] at h0; cases h0), fun i hi => ?_⟩
    rw [hF.1] at hi
    obtain rfl : i = k := by simpa using hi
    rw [wpOps_cons] at h
    exact wpOp_exits (fun e a w he hq => by cases e <;> first | exact hq | exact (he rfl).elim) (fun a w hh => wpAny_then hs hnp p _ a w hF.2 hB hr hh) h

theorem wpAny_of_growQ {p0 p1 p2 : List Nat} {T : Act → World → Prop} {N : Nat} {Q' : Exit → Act → World → Prop} (hS : StableS S) (hC : StableC C) (hT : ∀ a w, T a w → wpAny P .any ops Q' N (listOf ops.size p1) a w) (hcov : ∀ k, k < ops.size → k ∈ p1 ∨ k ∈ p2)
    (hdep : ∀ j ∈ p2, ∀ i ∈ p1, i ∈ p0 ∨ depB ops ops.size j i = true) : ∀ (fuel : Nat) (listed : Array Bool) (K : Known) (a : Act) (w : World),
    (∀ i ∈ p0, listed.getD i false = true) → Shut ops listed → Part ops p1 listed → StableK K → C w → allK K w → wpAnyP P ops C S p1 T fuel listed K a → wpAny P .any ops Q' (N + fuel) listed a w
  | 0, _, _, _, _, _, _, hp, _, hc, hk, h => by
    rw [listed_eq hp h.1]
    exact hT _ _ (h.2 _ hc hk)
  | fuel + 1, listed, K, a, w, hz0, hsh, hp, hK, hc, hk, h => by
    by_cases ha : allListed p1 listed = true
    · rw [listed_eq hp ha]
      exact wpAny_add _ (hT _ _ (h.1 ha _ hc hk))
    · have ha' : allListed p1 listed = false := by simpa using ha
      obtain ⟨i0, hi0, hn0⟩ : ∃ i ∈ p1, listed.getD i false = false := by
        have := ha
        simp only [allListed, List.all_eq_true] at this
        simpa using this
      have hno : ∀ i ∈ Region.ready .any ops listed, i ∈ p1 := fun i hi => by
        obtain ⟨_, o, ho, _⟩ := mem_ready.1 hi
        have hlt : i < ops.size := (Array.getElem?_eq_some_iff.1 ho).1
        rcases hcov i hlt with h | h
        · exact h
        · rcases hdep i h i0 hi0 with h1 | h1
          · have := hz0 i0 h1
            rw [hn0] at this
            cases this
          · have := depB_ready hsh hi h1
            rw [hn0] at this
            cases this
      have step : ∀ i ∈ Region.ready .any ops listed, wpOp P ops Q' i (wpAny P .any ops Q' (N + fuel) (listed.setIfInBounds i true)) a w := fun i hi =>
        wpOp_of_gOp hS hC hK hc hk (fun K' a' w' hK' hc' hk' hn => wpAny_of_growQ hS hC hT hcov hdep fuel _ K' a' w' (fun i hi => getD_set_true (hz0 i hi)) (hsh.set hi) ⟨by simpa using hp.1, fun k hkk => by
          rcases getD_set_cases hkk with rfl | hkk
          · exact hno _ hi
          · exact hp.2 k hkk⟩ hK' hc' hk' hn) ((h.2 ha').2 i hi)
      exact ⟨fun h0 => absurd h0 (h.2 ha').1, step⟩

def partB3 (l : List Oper) (p0 p1 p2 p3 : List Nat) : Bool :=
  Region.noSelect l.toArray && firstB l.toArray p0 (Array.replicate l.toArray.size false) && firstB l.toArray p1 (listOf l.toArray.size p0) && forcedTo l.toArray p2 (listOf l.toArray.size (p0 ++ p1)) &&
  firstB l.toArray p3 (p2.foldl (fun l i => l.setIfInBounds i true) (listOf l.toArray.size (p0 ++ p1))) && (Region.ready .any l.toArray (p3.foldl (fun l i => l.setIfInBounds i true) (p2.foldl (fun l i => l.setIfInBounds i true) (listOf l.toArray.size (p0 ++ p1))))).isEmpty &&
  ((List.range l.toArray.size).all fun k => p0.contains k || p1.contains k || (p2 ++ p3).contains k) && ((p2 ++ p3).all fun j => p1.all fun i => depB l.toArray l.toArray.size j i) && (p3.length + p2.length + p1.length + p0.length == l.length) && (p0.all fun k => k < l.length)

/-- A region that draws: what hangs on no world; its first part; its second part one behind the other; what hangs on no world again. -/
theorem wp_region_three (p0 p1 p2 p3 : List Nat) (S : Spec) (C : World → Prop) {id : Nat} {Q : Exit → Act → World → Prop} {a : Act} {w : World} {l : List Oper} (hS : StableS S) (hC : StableC C) (hm : P.follows .mixedOrders = true)
    (hB : partB3 l p0 p1 p2 p3 = true) (hw : C w.drew)
    (h : wpPure P l.toArray (wpGrowP P l.toArray C S (wpList P l.toArray (Then P l.toArray p3 (NoPanic Q)) (operOf l p2)) p1 []) p0 a) : (Code.region id l.toArray true).wp P Q a w := by
  simp only [partB3, Bool.and_eq_true] at hB
  obtain ⟨⟨⟨⟨⟨⟨⟨⟨⟨h1, h20⟩, h2⟩, h3⟩, h31⟩, h32⟩, h4⟩, h5⟩, h6⟩, h7⟩ := hB
  have hsh : Shut l.toArray (Array.replicate l.toArray.size false) := by
    intro j o _ hj
    by_cases hl : j < l.length <;> simp [Array.getD, hl] at hj
  have hsh0 : Shut l.toArray (listOf l.toArray.size p0) := Shut.fold p0 _ hsh h20
  have hcov : ∀ k, k < l.toArray.size → k ∈ p0 ++ p1 ∨ k ∈ p2 ++ p3 := fun k hk => by
    have := List.all_eq_true.1 h4 k (List.mem_range.2 hk)
    simp only [Bool.or_eq_true, List.contains_iff_mem] at this
    rcases this with (h | h) | h
    · exact .inl (List.mem_append_left _ h)
    · exact .inl (List.mem_append_right _ h)
    · exact .inr h
  have hdep : ∀ j ∈ p2 ++ p3, ∀ i ∈ p1, depB l.toArray l.toArray.size j i = true := fun j hj i hi => List.all_eq_true.1 (List.all_eq_true.1 h5 j hj) i hi
  have hp0 : ∀ i ∈ p0, (listOf l.toArray.size p0).getD i false = true := fun i hi => by
    unfold listOf
    rw [foldl_get]
    exact .inr ⟨hi, by have := List.all_eq_true.1 h7 i hi; simpa using this⟩
  rw [← wpOps_of_list p2] at h
  have hK0 : StableK ([] : Known) := fun x hx => by cases hx
  have ha0 : ∀ w, allK ([] : Known) w := fun w x hx => by cases hx
  have g := wpAny_pure (P := P) (Q' := NoPanic Q) (w := w.drew) h1 (fun _ _ _ h => h) (p3.length + p2.length + p1.length) p0 (Array.replicate l.toArray.size false) a h20 h fun a' ha' => by
    have g1 := wpAnyP_lex (P := P) (p1 := p0 ++ p1) (p2 := p2 ++ p3) h1 hC hS hcov p1 (listOf l.toArray.size p0) [] a' (fun i hi => ⟨List.mem_append_right _ hi, fun j hj => hdep j hj i hi⟩)
      (fun i hi => by
        rcases List.mem_append.1 hi with h | h
        · exact .inl (hp0 i h)
        · exact .inr h) hsh0 (listOf_size _ _) hK0 ⟨w.drew, hw, ha0 _⟩ h2 ha'
    exact wpAny_of_growQ (p0 := p0) hS hC (fun a w => wpAny_then h1 (fun _ _ _ h => h) p2 _ a w h3 h31 (by simpa using h32)) hcov (fun j hj i hi => by
      rcases List.mem_append.1 hi with h | h
      · exact .inl h
      · exact .inr (hdep j hj i h)) p1.length _ [] a' w.drew hp0 hsh0 ⟨listOf_size _ _, fun k hk => by
        have hk := (foldl_get p0 _ k).1 hk
        rcases hk with hk | ⟨hk, _⟩
        · by_cases hl : k < l.length <;> simp [Array.getD, hl] at hk
        · exact List.mem_append_left _ hk⟩ hK0 hw (ha0 _) g1
  rw [beq_iff_eq] at h6
  rw [h6] at g
  exact wp_region_noPanic (wp_region_any hm g)
end
end Go.Proofs.YtggkidnlmaindaaDoor
