/- GrowTail, GrowAid, LawPlain: laid together. -/
import Derived.Test.YtihaliffcobacaaGreatDoorSbB3
import Derived.Deep.RegionHeld3
import Derived.Test.YtihaliffcobacaaGreatDoorSbB2
set_option linter.unusedSimpArgs false
set_option linter.unusedVariables false
set_option maxHeartbeats 25600000
set_option maxRecDepth 20000
namespace Go.Proofs.YtihaliffcobacaaGreatDoor
open Go.RowKit
section
variable (P : Program) (ops : Array Oper) (C : World → Prop) (S : Spec)
def wpGrowP (Q : Act → World → Prop) : List Nat → Known → Act → Prop
 | [], K, a => ∀ w, C w → allK K w → Q a w
 | i :: rest, K, a => gOp P ops C S i (wpGrowP Q rest) K a
def allListed (p1 : List Nat) (listed : Array Bool) : Bool := p1.all fun i => listed.getD i false
def wpAnyP (p1 : List Nat) (Q : Act → World → Prop) : Nat → Array Bool → Known → Act → Prop
 | 0, listed, K, a => allListed p1 listed = true ∧ ∀ w, C w → allK K w → Q a w
 | fuel + 1, listed, K, a =>
  (allListed p1 listed = true → ∀ w, C w → allK K w → Q a w) ∧
  (allListed p1 listed = false → Region.ready .any ops listed ≠ [] ∧ ∀ i ∈ Region.ready .any ops listed, gOp P ops C S i (wpAnyP p1 Q fuel (listed.setIfInBounds i true)) K a)
end
section
variable {P : Program} {ops : Array Oper} {C : World → Prop} {S : Spec}
theorem wpAny_more {Q : Exit → Act → World → Prop} : ∀ (n : Nat) (listed : Array Bool) (a : Act) (w : World), wpAny P .any ops Q n listed a w → wpAny P .any ops Q (n + 1) listed a w
 | 0, _, _, _, h => ⟨fun _ => h.2, fun i hi => by rw [h.1] at hi; cases hi⟩
 | n + 1, _, _, _, h => ⟨h.1, fun i hi => wpOp_mono (fun a w hh => wpAny_more n _ a w hh) (h.2 i hi)⟩
theorem wpAny_add {Q : Exit → Act → World → Prop} {n : Nat} {listed : Array Bool} {a : Act} {w : World} (k : Nat) (h : wpAny P .any ops Q n listed a w) : wpAny P .any ops Q (n + k) listed a w := by
 induction k with
 | zero => exact h
 | succ k ih => exact wpAny_more _ _ _ _ ih
def forcedB (ops : Array Oper) : List Nat → Array Bool → Bool
 | [], listed => (Region.ready .any ops listed).isEmpty
 | k :: p, listed => Region.ready .any ops listed == [k] && forcedB ops p (listed.setIfInBounds k true)
theorem wpAny_forced {Q : Exit → Act → World → Prop} : ∀ (p : List Nat) (listed : Array Bool) (a : Act) (w : World), forcedB ops p listed = true → wpOps P ops Q p a w → wpAny P .any ops Q p.length listed a w
 | [], _, _, _, hB, h => ⟨by simpa [forcedB] using hB, h⟩
 | k :: p, listed, a, w, hB, h => by
  simp only [forcedB, Bool.and_eq_true, beq_iff_eq] at hB
  refine ⟨fun h0 => (by rw [hB.1] at h0; cases h0), fun i hi => ?_⟩
  rw [hB.1] at hi
  obtain rfl : i = k := by simpa using hi
  rw [wpOps_cons] at h
  exact wpOp_mono (fun a w hh => wpAny_forced p _ a w hB.2 hh) h
def Part (ops : Array Oper) (p1 : List Nat) (listed : Array Bool) : Prop := listed.size = ops.size ∧ ∀ k, listed.getD k false = true → k ∈ p1
def listOf (n : Nat) (p : List Nat) : Array Bool := p.foldl (fun l i => l.setIfInBounds i true) (Array.replicate n false)
theorem listOf_size (n : Nat) (p : List Nat) : (listOf n p).size = n := by
 unfold listOf
 suffices ∀ (l : Array Bool), (p.foldl (fun l i => l.setIfInBounds i true) l).size = l.size by rw [this]; simp
 induction p with
 | nil => intro l; rfl
 | cons i p ih => intro l; rw [List.foldl_cons, ih]; simp
theorem foldl_get (p : List Nat) : ∀ (l : Array Bool) (k : Nat), (p.foldl (fun l i => l.setIfInBounds i true) l).getD k false = true ↔ (l.getD k false = true ∨ (k ∈ p ∧ k < l.size)) := by
 induction p with
 | nil => intro l k; simp
 | cons i p ih =>
  intro l k
  rw [List.foldl_cons, ih]
  by_cases h : i = k
  ·subst h
   by_cases hs : i < l.size <;> simp [hs]
  ·rw [getD_set_ne false h]
   simp [Ne.symm h]
theorem listed_eq {p1 : List Nat} {listed : Array Bool} (hp : Part ops p1 listed) (ha : allListed p1 listed = true) : listed = listOf ops.size p1 := by
 apply Array.ext
 ·rw [listOf_size, hp.1]
 ·intro k h1 h2
  have e1 : listed.getD k false = listed[k] := by simp [h1]
  have e2 : (listOf ops.size p1).getD k false = (listOf ops.size p1)[k] := by simp [h2]
  rw [← e1, ← e2, Bool.eq_iff_iff]
  unfold listOf
  rw [foldl_get]
  constructor
  ·intro h; exact .inr ⟨hp.2 k h, by simpa [hp.1] using h1⟩
  ·rintro (h | ⟨h, _⟩)
   ·simp [Array.getElem?_replicate] at h
    split at h <;> simp at h
   ·exact (List.all_eq_true.1 ha) k h
theorem wpAny_of_growP {p0 p1 p2 : List Nat} {Q' : Exit → Act → World → Prop} (hS : StableS S) (hC : StableC C) (hF : forcedB ops p2 (listOf ops.size p1) = true) (hcov : ∀ k, k < ops.size → k ∈ p1 ∨ k ∈ p2)
  (hdep : ∀ j ∈ p2, ∀ i ∈ p1, i ∈ p0 ∨ depB ops ops.size j i = true) : ∀ (fuel : Nat) (listed : Array Bool) (K : Known) (a : Act) (w : World),
  (∀ i ∈ p0, listed.getD i false = true) → Shut ops listed → Part ops p1 listed → StableK K → C w → allK K w → wpAnyP P ops C S p1 (wpOps P ops Q' p2) fuel listed K a → wpAny P .any ops Q' (p2.length + fuel) listed a w
 | 0, _, _, _, _, _, _, hp, _, hc, hk, h => by
  rw [listed_eq hp h.1]
  exact wpAny_forced _ _ _ _ hF (h.2 _ hc hk)
 | fuel + 1, listed, K, a, w, hz0, hsh, hp, hK, hc, hk, h => by
  by_cases ha : allListed p1 listed = true
  ·rw [listed_eq hp ha]
   exact wpAny_add _ (wpAny_forced _ _ _ _ hF (h.1 ha _ hc hk))
  ·have ha' : allListed p1 listed = false := by simpa using ha
   obtain ⟨i0, hi0, hn0⟩ : ∃ i ∈ p1, listed.getD i false = false := by
    have := ha
    simp only [allListed, List.all_eq_true] at this
    simpa using this
   have hno : ∀ i ∈ Region.ready .any ops listed, i ∈ p1 := fun i hi => by
    obtain ⟨_, o, ho, _⟩ := mem_ready.1 hi
    have hlt : i < ops.size := (Array.getElem?_eq_some_iff.1 ho).1
    rcases hcov i hlt with h | h
    ·exact h
    ·rcases hdep i h i0 hi0 with h1 | h1
     ·have := hz0 i0 h1
      rw [hn0] at this
      cases this
     ·have := depB_ready hsh hi h1
      rw [hn0] at this
      cases this
   have step : ∀ i ∈ Region.ready .any ops listed, wpOp P ops Q' i (wpAny P .any ops Q' (p2.length + fuel) (listed.setIfInBounds i true)) a w := fun i hi =>
    wpOp_of_gOp hS hC hK hc hk (fun K' a' w' hK' hc' hk' hn => wpAny_of_growP hS hC hF hcov hdep fuel _ K' a' w' (fun i hi => getD_set_true (hz0 i hi)) (hsh.set hi) ⟨by simpa using hp.1, fun k hkk => by
     rcases getD_set_cases hkk with rfl | hkk
     ·exact hno _ hi
     ·exact hp.2 k hkk⟩ hK' hc' hk' hn) ((h.2 ha').2 i hi)
   exact ⟨fun h0 => absurd h0 (h.2 ha').1, step⟩
theorem wpAnyP_same {p1 : List Nat} {Q : Act → World → Prop} : ∀ (fuel : Nat) (listed : Array Bool) (K K' : Known) (a : Act), SameK K K' → wpAnyP P ops C S p1 Q fuel listed K a → wpAnyP P ops C S p1 Q fuel listed K' a
 | 0, _, _, _, _, hk, h => ⟨h.1, fun w hc ha => h.2 w hc (hk.allK.2 ha)⟩
 | fuel + 1, _, _, _, _, hk, h => ⟨fun h0 w hc ha => h.1 h0 w hc (hk.allK.2 ha), fun h0 => ⟨(h.2 h0).1, fun i hi => gOp_same hk (fun K K' a hk' hn => wpAnyP_same fuel _ K K' a hk' hn) ((h.2 h0).2 i hi)⟩⟩
theorem wpAnyP_first {p1 p2 : List Nat} {Q : Act → World → Prop} {i : Nat} {oi : Oper} (hi : ops[i]? = some oi) (hsel : ∀ (j : Nat) (o : Oper) cs b, ops[j]? = some o → o.op ≠ .select cs b) (hC : StableC C) (hS : StableS S) (hip : i ∈ p1)
  (hcov : ∀ k, k < ops.size → k ∈ p1 ∨ k ∈ p2) (hdep : ∀ j ∈ p2, depB ops ops.size j i = true) :
  ∀ (fuel : Nat) (listed : Array Bool) (K : Known) (a : Act), Shut ops listed → StableK K → Inh C K →
   (∀ j oj, ops[j]? = some oj → j ≠ i → listed.getD j true = false → (∀ e ∈ oj.after, Region.binds .any e = true → e.on ≠ i) → oi.apart ops oj = true) →
   i ∈ Region.ready .any ops listed →
   gOp P ops C S i (wpAnyP P ops C S p1 Q fuel (listed.setIfInBounds i true)) K a → wpAnyP P ops C S p1 Q (fuel + 1) listed K a := by
 have hno : ∀ (listed : Array Bool), Shut ops listed → i ∈ Region.ready .any ops listed → ∀ j ∈ Region.ready .any ops listed, j ∈ p1 := fun listed hsh hr j hj => by
  obtain ⟨_, o, ho, _⟩ := mem_ready.1 hj
  rcases hcov j (Array.getElem?_eq_some_iff.1 ho).1 with h | h
  ·exact h
  ·have := depB_ready hsh hj (hdep j h)
   rw [not_listed_of_ready hr] at this
   cases this
 have hnall : ∀ (listed : Array Bool) (j : Nat), j ∈ p1 → j ∈ Region.ready .any ops listed → allListed p1 listed = true → False := fun listed j hj hr ha => by
  have := (List.all_eq_true.1 ha) j hj
  rw [not_listed_of_ready hr] at this
  cases this
 intro fuel
 induction fuel with
 | zero =>
  intro listed K a hsh hK hinh _ hr H
  refine ⟨fun h => (hnall listed i hip hr h).elim, fun _ => ⟨fun h => (by rw [h] at hr; cases hr), fun j hj => ?_⟩⟩
  by_cases hji : j = i
  ·subst hji; exact H
  ·obtain ⟨K', a', h0⟩ := gOp_inh hC hK hinh H
   exact (hnall _ j (hno listed hsh hr j hj) (ready_mono hj hji) h0.1).elim
 | succ fuel ih =>
  intro listed K a hsh hK hinh hfree hr H
  refine ⟨fun h => (hnall listed i hip hr h).elim, fun _ => ⟨fun h => (by rw [h] at hr; cases hr), fun j hj => ?_⟩⟩
  by_cases hji : j = i
  ·subst hji; exact H
  ·have hjp := hno listed hsh hr j hj
   obtain ⟨hjun, oj, hoj, hall⟩ := mem_ready.1 hj
   have hnot : ∀ e ∈ oj.after, Region.binds .any e = true → e.on ≠ i := fun e he hb heq => by
    have h1 := hall e he hb
    rw [heq, not_listed_of_ready hr] at h1
    cases h1
   have hfa : allListed p1 (listed.setIfInBounds i true) = false := by
    cases h : allListed p1 (listed.setIfInBounds i true)
    ·rfl
    ·exact (hnall _ j hjp (ready_mono hj hji) h).elim
   have H' : gOp P ops C S i (fun K a => gOp P ops C S j (wpAnyP P ops C S p1 Q fuel ((listed.setIfInBounds i true).setIfInBounds j true)) K a) K a :=
    gOp_mono (fun K a h => (h.2 hfa).2 j (ready_mono hj hji)) H
   have h2 := gOp_comm (N' := wpAnyP P ops C S p1 Q fuel ((listed.setIfInBounds j true).setIfInBounds i true)) hsh hi hoj (hfree j oj hoj hji hjun hnot) (fun cs b => hsel i oi cs b hi) (fun cs b => hsel j oj cs b hoj) hr hj
    (fun K K' a hk h => by rw [Array.setIfInBounds_comm _ _ hji]; exact wpAnyP_same fuel _ K K' a hk h) hC hK hinh H'
   have hfree' : ∀ k ok, ops[k]? = some ok → k ≠ i → (listed.setIfInBounds j true).getD k true = false →
     (∀ e ∈ ok.after, Region.binds .any e = true → e.on ≠ i) → oi.apart ops ok = true := fun k ok hk hki hun hno => by
    refine hfree k ok hk hki ?_ hno
    by_cases hjk : j = k
    ·subst hjk; exact hjun
    ·rw [getD_set_ne true hjk] at hun; exact hun
   exact gOp_mono (fun K' a' h3 => ih (listed.setIfInBounds j true) K' a' (hsh.set hj) h3.1 h3.2.1 hfree' (ready_mono hr (Ne.symm hji)) h3.2.2) (gOp_keep hS hK hinh h2)
def firstB (ops : Array Oper) : List Nat → Array Bool → Bool
 | [], _ => true
 | k :: p, listed => (Region.ready .any ops listed).contains k && Region.free .any ops listed k && firstB ops p (listed.setIfInBounds k true)
theorem wpAnyP_lex {p1 p2 : List Nat} {Q : Act → World → Prop} (hs : Region.noSelect ops = true) (hC : StableC C) (hS : StableS S)
  (hcov : ∀ k, k < ops.size → k ∈ p1 ∨ k ∈ p2) : ∀ (p : List Nat) (listed : Array Bool) (K : Known) (a : Act), (∀ i ∈ p, i ∈ p1 ∧ ∀ j ∈ p2, depB ops ops.size j i = true) → (∀ i ∈ p1, listed.getD i false = true ∨ i ∈ p) → Shut ops listed → listed.size = ops.size → StableK K → Inh C K →
  firstB ops p listed = true → wpGrowP P ops C S Q p K a → wpAnyP P ops C S p1 Q p.length listed K a
 | [], _, _, _, _, hall, _, _, _, _, _, h => ⟨List.all_eq_true.2 fun i hi => by simpa using hall i hi, h⟩
 | k :: p, listed, K, a, hsub, hall, hsh, hsz, hK, hinh, hB, h => by
  simp only [firstB, Bool.and_eq_true] at hB
  obtain ⟨⟨hr, hf⟩, hB'⟩ := hB
  have hr' : k ∈ Region.ready .any ops listed := by simpa using hr
  obtain ⟨_, o, h0, _⟩ := mem_ready.1 hr'
  have hk : k < listed.size := by rw [hsz]; exact (Array.getElem?_eq_some_iff.1 h0).1
  exact wpAnyP_first h0 (Region.noSelect_spec hs) hC hS (hsub k List.mem_cons_self).1 hcov (hsub k List.mem_cons_self).2 p.length listed K a hsh hK hinh (Region.free_spec h0 hf) hr'
   (gOp_mono (fun K' a' hk' => wpAnyP_lex hs hC hS hcov p _ K' a' (fun i hi => hsub i (List.mem_cons_of_mem _ hi)) (fun i hi => by
    rcases hall i hi with h | h
    ·exact .inl (getD_set_true h)
    ·rcases List.mem_cons.1 h with rfl | h
     ·exact .inl (by simp [hk])
     ·exact .inr h) (hsh.set hr') (by simpa using hsz) hk'.1 hk'.2.1 hB' hk'.2.2) (gOp_keep hS hK hinh h))
def wpPure (P : Program) (ops : Array Oper) (Q : Act → Prop) : List Nat → Act → Prop
 | [], a => Q a
 | i :: rest, a => match ops[i]? with
  | none => False
  | some o => ∃ v, Yields P ops o v a ∧ wpPure P ops Q rest (a.put o.dst v)
theorem wpAny_pure {Q' : Exit → Act → World → Prop} {Q : Act → Prop} {w : World} (hs : Region.noSelect ops = true) (hnp : ∀ c a w, ¬ Q' (.panic c) a w) (n : Nat) : ∀ (p : List Nat) (listed : Array Bool) (a : Act), firstB ops p listed = true → wpPure P ops Q p a →
  (∀ a', Q a' → wpAny P .any ops Q' n (p.foldl (fun l i => l.setIfInBounds i true) listed) a' w) → wpAny P .any ops Q' (n + p.length) listed a w
 | [], _, _, _, h, hq => hq _ h
 | k :: p, listed, a, hB, h, hq => by
  simp only [firstB, Bool.and_eq_true] at hB
  obtain ⟨⟨hr, hf⟩, hB'⟩ := hB
  have hr' : k ∈ Region.ready .any ops listed := by simpa using hr
  obtain ⟨_, o, h0, _⟩ := mem_ready.1 hr'
  unfold wpPure at h
  simp only [h0] at h
  obtain ⟨v, hy, hn⟩ := h
  exact wpAny_first h0 (Region.noSelect_spec hs) (fun c a w h => (hnp c _ w h).elim) (n + p.length) listed a w (Region.free_spec h0 hf) hr' hy (wpAny_pure hs hnp n p _ _ hB' hn hq)
theorem Shut.fold : ∀ (p : List Nat) (listed : Array Bool), Shut ops listed → firstB ops p listed = true → Shut ops (p.foldl (fun l i => l.setIfInBounds i true) listed)
 | [], _, h, _ => h
 | k :: p, listed, h, hB => by
  simp only [firstB, Bool.and_eq_true] at hB
  exact Shut.fold p _ (h.set (by simpa using hB.1.1)) hB.2
def partB (l : List Oper) (p0 p1 p2 : List Nat) : Bool :=
 Region.noSelect l.toArray && firstB l.toArray p0 (Array.replicate l.toArray.size false) && firstB l.toArray p1 (listOf l.toArray.size p0) && forcedB l.toArray p2 (listOf l.toArray.size (p0 ++ p1)) &&
 ((List.range l.toArray.size).all fun k => p0.contains k || p1.contains k || p2.contains k) && (p2.all fun j => p1.all fun i => depB l.toArray l.toArray.size j i) && (p2.length + p1.length + p0.length == l.length) && (p0.all fun k => k < l.length)
def operOf (l : List Oper) (p : List Nat) : List Oper := p.filterMap fun k => l[k]?
theorem wpOps_of_list {l : List Oper} {Q : Exit → Act → World → Prop} : ∀ (p : List Nat), wpOps P l.toArray Q p = wpList P l.toArray Q (operOf l p)
 | [] => by funext a w; simp [wpOps, wpList, operOf]
 | k :: p => by
  funext a w
  cases h : l[k]? with
  | none => simp [wpOps, operOf, h, wpOps_of_list p]
  | some o => simp [wpOps, wpList, operOf, h, wpOps_of_list p]
theorem any_parts (p0 p1 p2 : List Nat) (S : Spec) (C : World → Prop) {Q : Exit → Act → World → Prop} {a : Act} {w : World} {l : List Oper} (hS : StableS S) (hC : StableC C)
  (hB : partB l p0 p1 p2 = true) (hw : C w.drew)
  (h : wpPure P l.toArray (wpGrowP P l.toArray C S (wpList P l.toArray (NoPanic Q) (operOf l p2)) p1 []) p0 a) : wpAny P .any l.toArray (NoPanic Q) l.toArray.size (Array.replicate l.toArray.size false) a w.drew := by
 simp only [partB, Bool.and_eq_true] at hB
 obtain ⟨⟨⟨⟨⟨⟨⟨h1, h20⟩, h2⟩, h3⟩, h4⟩, h5⟩, h6⟩, h7⟩ := hB
 have hsh : Shut l.toArray (Array.replicate l.toArray.size false) := by
  intro j o _ hj
  by_cases hl : j < l.length <;> simp [Array.getD, hl] at hj
 have hsh0 : Shut l.toArray (listOf l.toArray.size p0) := Shut.fold p0 _ hsh h20
 have hcov : ∀ k, k < l.toArray.size → k ∈ p0 ++ p1 ∨ k ∈ p2 := fun k hk => by
  have := List.all_eq_true.1 h4 k (List.mem_range.2 hk)
  simp only [Bool.or_eq_true, List.contains_iff_mem] at this
  rcases this with (h | h) | h
  ·exact .inl (List.mem_append_left _ h)
  ·exact .inl (List.mem_append_right _ h)
  ·exact .inr h
 have hdep : ∀ j ∈ p2, ∀ i ∈ p1, depB l.toArray l.toArray.size j i = true := fun j hj i hi => List.all_eq_true.1 (List.all_eq_true.1 h5 j hj) i hi
 have hp0 : ∀ i ∈ p0, (listOf l.toArray.size p0).getD i false = true := fun i hi => by
  unfold listOf
  rw [foldl_get]
  exact .inr ⟨hi, by have := List.all_eq_true.1 h7 i hi; simpa using this⟩
 rw [← wpOps_of_list p2] at h
 have hK0 : StableK ([] : Known) := fun x hx => by cases hx
 have ha0 : ∀ w, allK ([] : Known) w := fun w x hx => by cases hx
 have g := wpAny_pure (P := P) (Q' := NoPanic Q) (w := w.drew) h1 (fun _ _ _ h => h) (p2.length + p1.length) p0 (Array.replicate l.toArray.size false) a h20 h fun a' ha' => by
  have g1 := wpAnyP_lex (P := P) (p1 := p0 ++ p1) (p2 := p2) h1 hC hS hcov p1 (listOf l.toArray.size p0) [] a' (fun i hi => ⟨List.mem_append_right _ hi, fun j hj => hdep j hj i hi⟩)
   (fun i hi => by
    rcases List.mem_append.1 hi with h | h
    ·exact .inl (hp0 i h)
    ·exact .inr h) hsh0 (listOf_size _ _) hK0 ⟨w.drew, hw, ha0 _⟩ h2 ha'
  exact wpAny_of_growP (p0 := p0) hS hC h3 hcov (fun j hj i hi => by
   rcases List.mem_append.1 hi with h | h
   ·exact .inl h
   ·exact .inr (hdep j hj i h)) p1.length _ [] a' w.drew hp0 hsh0 ⟨listOf_size _ _, fun k hk => by
    have hk := (foldl_get p0 _ k).1 hk
    rcases hk with hk | ⟨hk, _⟩
    ·by_cases hl : k < l.length <;> simp [Array.getD, hl] at hk
    ·exact List.mem_append_left _ hk⟩ hK0 hw (ha0 _) g1
 rw [beq_iff_eq] at h6
 rw [h6] at g
 exact g
theorem wp_region_parts (p0 p1 p2 : List Nat) (S : Spec) (C : World → Prop) {id : Nat} {Q : Exit → Act → World → Prop} {a : Act} {w : World} {l : List Oper} (hS : StableS S) (hC : StableC C) (hm : P.follows .mixedOrders = true)
  (hB : partB l p0 p1 p2 = true) (hw : C w.drew)
  (h : wpPure P l.toArray (wpGrowP P l.toArray C S (wpList P l.toArray (NoPanic Q) (operOf l p2)) p1 []) p0 a) : (Code.region id l.toArray true).wp P Q a w :=
 wp_region_noPanic (wp_region_any hm (any_parts p0 p1 p2 S C hS hC hB hw h))
theorem pure_run {Q : Act → Prop} {l : List Oper} {i : Nat} {o : Oper} {rest : List Nat} {a : Act} (ho : l[i]? = some o) (hw : Region.wanted o (yielded l.toArray a.tmps) = true)
  (h : ∃ v, (∀ w, (execOp a.eval o).run P w = .ok (.value v) w) ∧ wpPure P l.toArray Q rest (a.put o.dst v)) : wpPure P l.toArray Q (i :: rest) a := by
 obtain ⟨v, h1, h2⟩ := h
 unfold wpPure
 have ho' : l.toArray[i]? = some o := by simpa using ho
 simp only [ho']
 exact ⟨v, .inl ⟨hw, h1⟩, h2⟩
theorem pure_nil {Q : Act → Prop} {a : Act} (h : Q a) : wpPure P ops Q [] a := h
theorem growP_nil {Q : Act → World → Prop} {K : Known} {a : Act} (h : ∀ w, C w → allK K w → Q a w) : wpGrowP P ops C S Q [] K a := h
theorem growP_run {Q : Act → World → Prop} {l : List Oper} {i : Nat} {o : Oper} {rest : List Nat} {K : Known} {a : Act} (ho : l[i]? = some o) (hs : S i = none) (hw : Region.wanted o (yielded l.toArray a.tmps) = true)
  (h : ∃ v, (∀ w, C w → knownAt l.toArray K i w → (execOp a.eval o).run P w = .ok (.value v) w) ∧ wpGrowP P l.toArray C S Q rest K (a.put o.dst v)) : wpGrowP P l.toArray C S Q (i :: rest) K a := by
 show gOp _ _ _ _ _ _ _ _
 unfold gOp
 have ho' : l.toArray[i]? = some o := by simpa using ho
 simp only [ho', hw, if_true, hs]
 exact h
theorem growP_eff {Q : Act → World → Prop} {l : List Oper} {i : Nat} {o : Oper} {rest : List Nat} {K : Known} {a : Act} {A : Value → World → Prop} (ho : l[i]? = some o) (hs : S i = some A) (hw : Region.wanted o (yielded l.toArray a.tmps) = true)
  (h1 : ∀ w, C w → knownAt l.toArray K i w → growAt P o a A w) (h : ∀ v, Inh C ((i, A v) :: K) → wpGrowP P l.toArray C S Q rest ((i, A v) :: K) (a.put o.dst v)) : wpGrowP P l.toArray C S Q (i :: rest) K a := by
 show gOp _ _ _ _ _ _ _ _
 unfold gOp
 have ho' : l.toArray[i]? = some o := by simpa using ho
 simp only [ho', hw, if_true, hs]
 exact ⟨h1, h⟩
end
def SlShape {α : Type} (E : El α) (w : World) (S : BS) (v : Value) (n : Nat) (xs : List α) : Prop := ∃ A c, v = .slice A n c ∧ Sl E w S v xs
theorem SlShape.ext {α : Type} {E : El α} (hE : E.Ok) {w w' : World} {S : BS} {v : Value} {n : Nat} {xs : List α} (h : SlShape E w S v n xs) (he : Ext w w') : SlShape E w' S v n xs := by
 obtain ⟨A, c, e, h⟩ := h; exact ⟨A, c, e, h.ext hE he⟩
theorem bytes_of_S {w : World} {S : BS} {v : Value} {l : List UInt8} {B : Nat} (h : BytesS w S v l) (hS : ∀ k, k < w.heap.size → S k → k < B) : Bytes w B v l := by
 obtain ⟨cs, ⟨h0, A, c, rfl, h1, h2, h3⟩, hc⟩ := h
 have hc := cells_U8 hc
 subst hc
 refine ⟨A, c, by simp, by simpa using h1, h2, fun hn => ?_⟩
 obtain ⟨b, off, e, hb, hlt, hcell⟩ := h3 (by simpa using hn)
 exact ⟨b, off, e, hS b hlt hb, hcell⟩
theorem bytes_all {w : World} {S : BS} {v : Value} {l : List UInt8} (h : BytesS w S v l) : Bytes w w.heap.size v l := bytes_of_S h fun _ h _ => h
theorem bytess_two {w : World} {S1 S2 : BS} {v1 v2 : Value} {l1 l2 : List UInt8} {t : TypeId} {f : Nat × Nat} (h1 : BytesS w S1 v1 l1) (h2 : BytesS w S2 v2 l2) :
  Bytess (w.alloc (.cells #[v1, v2] t f)) (w.heap.size + 1) (.slice (some ⟨w.heap.size, 0, none⟩) 2 2) [l1, l2] := by
 have hE : Ext w (w.alloc (.cells #[v1, v2] t f)) := (Keep.refl _ _).alloc _
 refine Bytess.two (u := v1) (u' := v2) (Row.new (w := w) (l := [v1, v2]) (by omega) (by simp [maxLen]) f) ?_ ?_
 ·exact (bytes_all (h1.ext EU8.ok hE)).more (by simp)
 ·exact (bytes_all (h2.ext EU8.ok hE)).more (by simp)
abbrev EBytes : El (List UInt8) := ESl EU8
theorem EBytes.ok : EBytes.Ok := ESl.ok EU8.ok
theorem bytess_of_S {w : World} {S : BS} {v : Value} {ls : List (List UInt8)} (h : Sl EBytes w S v ls) : Bytess w w.heap.size v ls := by
 obtain ⟨A, c, rfl, h1, h2⟩ := h.shape
 have hat := fun (k : Nat) (hk : k < ls.length) => h.at_ EBytes.ok hk
 obtain ⟨cs, ⟨h0, A', c', e, h3, h4, h5⟩, hc⟩ := h
 injection e with e1 _ e3
 subst e1 e3
 have hn : cs.length = ls.length := by rw [h0]; show ls.length * 1 = _; omega
 refine ⟨cs, ⟨A, c, by rw [hn], by omega, h2, fun hp => ?_⟩, hn, fun i hi hi' => ?_⟩
 ·obtain ⟨b, off, e, _, hlt, hcell⟩ := h5 (by omega)
  exact ⟨b, off, e, hlt, hcell⟩
 ·obtain ⟨c0, hr, hg⟩ := hc.get EBytes.ok hi'
  obtain ⟨v0, rfl, hb⟩ := hr
  have := hg 0 _ rfl
  have e : cs[i] = v0 := by
   have h1 : cs[i]? = some v0 := by simpa [EBytes, ESl] using this
   rw [List.getElem?_eq_getElem hi] at h1
   exact Option.some.inj h1
  rw [e]; exact bytes_all hb
theorem sl_two {w : World} {S : BS} {v1 v2 : Value} {l1 l2 : List UInt8} {t : TypeId} {f : Nat × Nat} (h1 : BytesS w S v1 l1) (h2 : BytesS w S v2 l2) :
  Sl EBytes (w.alloc (.cells #[v1, v2] t f)) (fun k => S k ∨ k = w.heap.size) (.slice (some ⟨w.heap.size, 0, none⟩) 2 2) [l1, l2] := by
 have hE : Ext w (w.alloc (.cells #[v1, v2] t f)) := (Keep.refl _ _).alloc _
 have g : ∀ {v l}, BytesS w S v l → BytesS (w.alloc (.cells #[v1, v2] t f)) (fun k => S k ∨ k = w.heap.size) v l := fun h => (h.ext EU8.ok hE).more EU8.ok fun _ _ h => .inl h
 refine ⟨[v1, v2], (RowS.new (w := w) (sz := 1) (n := 2) (cs := [_, _]) rfl (by simp [maxLen]) f).more fun k _ e => .inr e, ?_⟩
 exact ⟨[v1], _, rfl, ⟨v1, rfl, g h1⟩, [v2], _, rfl, ⟨v2, rfl, g h2⟩, rfl⟩
theorem sl_three {w : World} {S : BS} {v1 v2 v3 : Value} {l1 l2 l3 : List UInt8} {t : TypeId} {f : Nat × Nat} (h1 : BytesS w S v1 l1) (h2 : BytesS w S v2 l2) (h3 : BytesS w S v3 l3) :
  Sl EBytes (w.alloc (.cells #[v1, v2, v3] t f)) (fun k => S k ∨ k = w.heap.size) (.slice (some ⟨w.heap.size, 0, none⟩) 3 3) [l1, l2, l3] := by
 have hE : Ext w (w.alloc (.cells #[v1, v2, v3] t f)) := (Keep.refl _ _).alloc _
 have g : ∀ {v l}, BytesS w S v l → BytesS (w.alloc (.cells #[v1, v2, v3] t f)) (fun k => S k ∨ k = w.heap.size) v l := fun h => (h.ext EU8.ok hE).more EU8.ok fun _ _ h => .inl h
 refine ⟨[v1, v2, v3], (RowS.new (w := w) (sz := 1) (n := 3) (cs := [_, _, _]) rfl (by simp [maxLen]) f).more fun k _ e => .inr e, ?_⟩
 exact ⟨[v1], _, rfl, ⟨v1, rfl, g h1⟩, [v2], _, rfl, ⟨v2, rfl, g h2⟩, [v3], _, rfl, ⟨v3, rfl, g h3⟩, rfl⟩
theorem bytes_any {w : World} {S : BS} {v : Value} {l : List UInt8} (h : BytesS w S v l) : BytesS w (fun _ => True) v l := h.more EU8.ok fun _ _ _ => trivial
theorem own_u8 {w : World} {base : Nat} {T : TypeId} {S S' : BS} {v : Value} {l : List UInt8} (h : Own EU8 w base T S v l) : Own EU8 w base T S' v l := by
 rcases h with h | ⟨g', cap, cur, e, h1, h2, h3, h4, h5, h6⟩
 ·exact .inl h
 ·refine .inr ⟨g', cap, cur, e, h1, h2, h3, h4, h5, ?_⟩
  rw [cells_U8 h6]; exact U8_cells _
theorem own_new {w : World} {base : Nat} {T : TypeId} {S : BS} {v : Value} {l : List UInt8} (h : Own EU8 w base T S v l) : BytesS w (fun k => base ≤ k) v l := by
 obtain ⟨cs, h1, h2⟩ := h.rowS EU8.ok
 refine ⟨cs, h1.more fun k _ e => (h.lt e).1, ?_⟩
 rw [cells_U8 h2]
 exact U8_cells _
theorem bytes_new {w : World} {t : TypeId} {f : Nat × Nat} (l : List UInt8) (h : l.length ≤ maxLen) :
  BytesS (w.alloc (.cells (l.map U8).toArray t f)) (fun k => w.heap.size ≤ k) (.slice (some ⟨w.heap.size, 0, none⟩) l.length l.length) l :=
 ⟨l.map U8, (RowS.new (w := w) (t := t) (sz := 1) (n := l.length) (cs := l.map U8) (by simp) h f).more fun k _ e => by subst e; exact Nat.le_refl _, U8_cells _⟩
theorem wpList_append_bytes {P : Program} {w : World} {S2 : BS} {base : Nat} {t T : TypeId} {v y : Value} {xs ys : List UInt8} {ops : Array Oper} {rest : List Oper} {o : Oper} {a : Act} {Q : Exit → Act → World → Prop} (hgd : o.guard = none) (s x : Operand)
  (ht : TyInfo P t T 1 1) (ho : o.op = .call { callee := .builtin .append, args := #[s, x], argTypes := #[t, t] })
  (hs : a.eval s = v) (hx : a.eval x = y) (hown : Own EU8 w base T (fun _ => False) v xs) (hsrc : BytesS w S2 y ys) (hg : ∀ g, v.ownBlock = some g → ¬ S2 g)
  (hlen : xs.length + ys.length ≤ 140737488355328) (hbase : base ≤ w.heap.size)
  (h : ∀ A' c' w', Own EU8 w' base T (fun _ => False) (.slice A' (xs.length + ys.length) c') (xs ++ ys) → xs.length + ys.length ≤ c' → c' ≤ maxLen → Keep (fun k => v.ownBlock = some k) w w' → wpList P ops Q rest (a.put o.dst (.slice A' (xs.length + ys.length) c')) w') : wpList P ops Q (o :: rest) a w := by
 refine wpList_own_append (E := EU8) w hgd s x EU8.ok ht ho hs hx hown hsrc (fun g e => ⟨id, hg g e⟩) (by omega) (by simp only [maxLen]; omega) hbase (fun v' w' h1 h2 h3 => ?_)
 obtain ⟨A', c', e, h4, h5⟩ := h1.shape
 rw [List.length_append] at e h4
 subst e
 exact h A' c' w' (own_u8 h1) h4 h5 h2
def plainL (s : ByteArray) : List UInt8 := (s.data.toList.take 40).map (· % 128)
theorem plain_asc (s : ByteArray) : Asc (textOf (plainL s)) := by
 refine ⟨fun c hc => ?_, ?_⟩
 ·simp only [textOf, plainL, List.mem_map] at hc
  obtain ⟨x, _, rfl⟩ := hc
  rw [UInt8.toNat_mod]
  exact Nat.mod_lt _ (by decide)
 ·have : (textOf (plainL s)).size = (plainL s).length := by simp [textOf, ByteArray.size]
  rw [this, plainL, List.length_map, List.length_take]
  omega
theorem plain_len (s : ByteArray) : (plainL s).length ≤ 40 := by simp [plainL]; omega
set_option maxRecDepth 100000 in
theorem plain_ok (s : ByteArray) (w : World) :
  Calls Tryz.prog 65 #[.string s] w fun e w' => e = .returned (.string (textOf (plainL s))) ∧ Ext w w' := by
 go_enter Tryz.func65, Tryz.ntmps65
 go_wp2_with fail
 go_loopw [3, 4] (fun b i wr => ∃ j : Nat, j ≤ 40 ∧ j ≤ s.size ∧ i = .int .i64 j ∧ Own EU8 wr w.heap.size 5 (fun _ => False) b ((s.data.toList.take j).map (· % 128)) ∧ Ext w wr) (fun _ i _ => 40 - (intOf i).toNat)
 case atStart => exact ⟨0, by omega, by omega, rfl, Own.nil _ _ _ _, Keep.refl _ _⟩
 case round =>
  obtain ⟨j, hj, hjs, rfl, hown, hE⟩ := hrel
  obtain ⟨A, c, rfl, hl, hc⟩ := hown.shape
  have hlen : ((s.data.toList.take j).map (· % 128)).length = j := by
   rw [List.length_map, List.length_take]
   have : s.data.toList.length = s.size := Array.length_toList
   omega
  rw [hlen] at hown ⊢
  have HO := hid hown
  have HE := hid hE
  clear hown hE
  have hstop : ¬ (j < s.size ∧ j < 40) → (s.data.toList.take j).map (· % 128) = plainL s := by
   intro h
   unfold plainL
   rcases Nat.lt_or_ge j 40 with h1 | h1
   ·have h2 : s.data.toList.length = s.size := Array.length_toList
    rw [List.take_of_length_le (by omega), List.take_of_length_le (by omega)]
   ·obtain rfl : j = 40 := by omega
    rfl
  by_cases h1 : j < s.size
  ·by_cases h2 : j < 40
   ·have hnext : (s.data.toList.take j).map (· % 128) ++ [s[j] % 128] = (s.data.toList.take (j + 1)).map (· % 128) := by
     have h3 : s.data.toList.length = s.size := Array.length_toList
     rw [List.take_succ_eq_append_getElem (by omega), List.map_append]
     rfl
    have HX := hid hnext
    have hnew := bytes_new (w := wr) (t := 5) (f := (0, 0)) [s[j] % 128] (by simp [maxLen])
    have hu : [s[j] % 128].map U8 = [Value.int .u8 ((s[j].toNat : Int) % 128)] := by
     simp only [List.map_cons, List.map_nil, U8, UInt8.toNat_mod]
     rfl
    rw [hu] at hnew
    have HV := hid hnew
    have HO2 := hid (HO.out.ext EU8.ok ((Keep.refl (fun _ => False) wr).alloc (.cells [Value.int .u8 ((s[j].toNat : Int) % 128)].toArray 5)))
    have HLN := hid hlen
    generalize (s.data.toList.take j).map (· % 128) = tj at *
    clear hnew hu hnext hstop
    have h1X : (j : Int) < s.size := by omega
    have h2X : (j : Int) < 40 := by omega
    go_wp2_with (at_builtin; refine wpList_append_bytes rfl (.tmp 15) (.tmp 20) ty_u8 rfl rfl rfl HO2.out HV.out ?c1 ?c2 ?c3 ?_)
    case c1 => intro g hg h; have := HO.out.lt (show (Value.slice A j c).ownBlock = some g from hg); omega
    case c2 => simp; omega
    case c3 => have := HE.out.size; simp; omega
    intro A' c' w' h3 h4 h5 h6
    have HO3 := hid h3
    have HE3 := hid (HE.out.trans ((Keep.alloc (Keep.refl (fun k => (Value.slice A j c).ownBlock = some k) wr) _).trans h6 fun k _ e => e) fun k hk e => by have := (HO.out.lt (show (Value.slice A j c).ownBlock = some k from e)).1; omega)
    have hl3 : tj.length + [s[j] % 128].length = j + 1 := by have := HLN.out; simp; omega
    clear h3 h4 h6 HO HO2 HV HE hlen
    go_wp2
    go_roundw
    case rel => exact ⟨j + 1, by omega, by omega, by go_num, by rw [← HX.out]; exact HO3.out, HE3.out⟩
    case measure => simp [intOf]; omega
   ·have hl := hstop (by omega)
    have HC := convert_bytesS (HO.out.sl EU8.ok)
    rw [hl] at HC
    have HE2 := hid HE.out
    clear HO HE hstop hlen hl
    go_wp2
    go_ret
    exact ⟨rfl, HE2.out⟩
  ·have hl := hstop (by omega)
   have HC := convert_bytesS (HO.out.sl EU8.ok)
   rw [hl] at HC
   have HE2 := hid HE.out
   clear HO HE hstop hlen hl
   go_wp2
   go_ret
   exact ⟨rfl, HE2.out⟩
end Go.Proofs.YtihaliffcobacaaGreatDoor
