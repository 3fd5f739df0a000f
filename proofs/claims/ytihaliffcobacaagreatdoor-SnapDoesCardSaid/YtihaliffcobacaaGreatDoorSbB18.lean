/- GrowMTail, DiskE: laid together. -/
import Derived.Test.YtihaliffcobacaaGreatDoorSbB17
import Derived.Deep.RegionHeld3
import Derived.Test.YtihaliffcobacaaGreatDoorSbB16
set_option linter.unusedSimpArgs false
set_option linter.unusedVariables false
namespace Go.Proofs.YtihaliffcobacaaGreatDoor.M
open Go.RowKit
section
variable (P : Program) (ops : Array Oper) (C : World → Prop) (R : Nat → World → World → Prop) (S : Spec)
def wpGrowP (Q : Act → World → Prop) : List Nat → Known → Act → Prop
 | [], K, a => ∀ w, C w → allK K w → Q a w
 | i :: rest, K, a => gOp P ops C R S i (wpGrowP Q rest) K a
def allListed (p1 : List Nat) (listed : Array Bool) : Bool := p1.all fun i => listed.getD i false
def wpAnyP (p1 : List Nat) (Q : Act → World → Prop) : Nat → Array Bool → Known → Act → Prop
 | 0, listed, K, a => allListed p1 listed = true ∧ ∀ w, C w → allK K w → Q a w
 | fuel + 1, listed, K, a =>
  (allListed p1 listed = true → ∀ w, C w → allK K w → Q a w) ∧
  (allListed p1 listed = false → Region.ready .any ops listed ≠ [] ∧ ∀ i ∈ Region.ready .any ops listed, gOp P ops C R S i (wpAnyP p1 Q fuel (listed.setIfInBounds i true)) K a)
end
section
variable {P : Program} {ops : Array Oper} {C : World → Prop} {R : Nat → World → World → Prop} {S : Spec}
theorem wpAny_more {Q : Exit → Act → World → Prop} : ∀ (n : Nat) (listed : Array Bool) (a : Act) (w : World), wpAny P .any ops Q n listed a w → wpAny P .any ops Q (n + 1) listed a w
 | 0, _, _, _, h => ⟨fun _ => h.2, fun i hi => by rw [h.1] at hi; cases hi⟩
 | n + 1, _, _, _, h => ⟨h.1, fun i hi => wpOp_mono (fun a w hh => wpAny_more n _ a w hh) (h.2 i hi)⟩
theorem wpAny_add {Q : Exit → Act → World → Prop} {n : Nat} {listed : Array Bool} {a : Act} {w : World} (k : Nat) (h : wpAny P .any ops Q n listed a w) : wpAny P .any ops Q (n + k) listed a w := by
 induction k with
 | zero => exact h
 | succ k ih => exact wpAny_more _ _ _ _ ih
def forcedB (ops : Array Oper) : List Nat → Array Bool → Bool
 | [], listed => (Region.ready .any ops listed).isEmpty
 | k :: p, listed => Region.ready .any ops listed == [k] && forcedB ops p (listed.setIfInBounds k true)
theorem wpAny_forced {Q : Exit → Act → World → Prop} : ∀ (p : List Nat) (listed : Array Bool) (a : Act) (w : World), forcedB ops p listed = true → wpOps P ops Q p a w → wpAny P .any ops Q p.length listed a w
 | [], _, _, _, hB, h => ⟨by simpa [forcedB] using hB, h⟩
 | k :: p, listed, a, w, hB, h => by
  simp only [forcedB, Bool.and_eq_true, beq_iff_eq] at hB
  refine ⟨fun h0 => (by rw [hB.1] at h0; cases h0), fun i hi => ?_⟩
  rw [hB.1] at hi
  obtain rfl : i = k := by simpa using hi
  rw [wpOps_cons] at h
  exact wpOp_mono (fun a w hh => wpAny_forced p _ a w hB.2 hh) h
def Part (ops : Array Oper) (p1 : List Nat) (listed : Array Bool) : Prop := listed.size = ops.size ∧ ∀ k, listed.getD k false = true → k ∈ p1
def listOf (n : Nat) (p : List Nat) : Array Bool := p.foldl (fun l i => l.setIfInBounds i true) (Array.replicate n false)
theorem listOf_size (n : Nat) (p : List Nat) : (listOf n p).size = n := by
 unfold listOf
 suffices ∀ (l : Array Bool), (p.foldl (fun l i => l.setIfInBounds i true) l).size = l.size by rw [this]; simp
 induction p with
 | nil => intro l; rfl
 | cons i p ih => intro l; rw [List.foldl_cons, ih]; simp
theorem foldl_get (p : List Nat) : ∀ (l : Array Bool) (k : Nat), (p.foldl (fun l i => l.setIfInBounds i true) l).getD k false = true ↔ (l.getD k false = true ∨ (k ∈ p ∧ k < l.size)) := by
 induction p with
 | nil => intro l k; simp
 | cons i p ih =>
  intro l k
  rw [List.foldl_cons, ih]
  by_cases h : i = k
  ·subst h
   by_cases hs : i < l.size <;> simp [hs]
  ·rw [getD_set_ne false h]
   simp [Ne.symm h]
theorem listed_eq {p1 : List Nat} {listed : Array Bool} (hp : Part ops p1 listed) (ha : allListed p1 listed = true) : listed = listOf ops.size p1 := by
 apply Array.ext
 ·rw [listOf_size, hp.1]
 ·intro k h1 h2
  have e1 : listed.getD k false = listed[k] := by simp [h1]
  have e2 : (listOf ops.size p1).getD k false = (listOf ops.size p1)[k] := by simp [h2]
  rw [← e1, ← e2, Bool.eq_iff_iff]
  unfold listOf
  rw [foldl_get]
  constructor
  ·intro h; exact .inr ⟨hp.2 k h, by simpa [hp.1] using h1⟩
  ·rintro (h | ⟨h, _⟩)
   ·simp [Array.getElem?_replicate] at h
    split at h <;> simp at h
   ·exact (List.all_eq_true.1 ha) k h
theorem wpAny_of_growP {p0 p1 p2 : List Nat} {Q' : Exit → Act → World → Prop} (hS : StableS R S) (hC : StableC R C) (hF : forcedB ops p2 (listOf ops.size p1) = true) (hcov : ∀ k, k < ops.size → k ∈ p1 ∨ k ∈ p2)
  (hdep : ∀ j ∈ p2, ∀ i ∈ p1, i ∈ p0 ∨ depB ops ops.size j i = true) : ∀ (fuel : Nat) (listed : Array Bool) (K : Known) (a : Act) (w : World),
  (∀ i ∈ p0, listed.getD i false = true) → Shut ops listed → Part ops p1 listed → GoodK R listed K → C w → allK K w → wpAnyP P ops C R S p1 (wpOps P ops Q' p2) fuel listed K a → wpAny P .any ops Q' (p2.length + fuel) listed a w
 | 0, _, _, _, _, _, _, hp, _, hc, hk, h => by
  rw [listed_eq hp h.1]
  exact wpAny_forced _ _ _ _ hF (h.2 _ hc hk)
 | fuel + 1, listed, K, a, w, hz0, hsh, hp, hK, hc, hk, h => by
  by_cases ha : allListed p1 listed = true
  ·rw [listed_eq hp ha]
   exact wpAny_add _ (wpAny_forced _ _ _ _ hF (h.1 ha _ hc hk))
  ·have ha' : allListed p1 listed = false := by simpa using ha
   obtain ⟨i0, hi0, hn0⟩ : ∃ i ∈ p1, listed.getD i false = false := by
    have := ha
    simp only [allListed, List.all_eq_true] at this
    simpa using this
   have hno : ∀ i ∈ Region.ready .any ops listed, i ∈ p1 := fun i hi => by
    obtain ⟨_, o, ho, _⟩ := mem_ready.1 hi
    have hlt : i < ops.size := (Array.getElem?_eq_some_iff.1 ho).1
    rcases hcov i hlt with h | h
    ·exact h
    ·rcases hdep i h i0 hi0 with h1 | h1
     ·have := hz0 i0 h1
      rw [hn0] at this
      cases this
     ·have := depB_ready hsh hi h1
      rw [hn0] at this
      cases this
   have step : ∀ i ∈ Region.ready .any ops listed, wpOp P ops Q' i (wpAny P .any ops Q' (p2.length + fuel) (listed.setIfInBounds i true)) a w := fun i hi =>
    wpOp_of_gOp hS hC hK hi hc hk (fun K' a' w' hK' hc' hk' hn => wpAny_of_growP hS hC hF hcov hdep fuel _ K' a' w' (fun i hi => getD_set_true (hz0 i hi)) (hsh.set hi) ⟨by simpa using hp.1, fun k hkk => by
     rcases getD_set_cases hkk with rfl | hkk
     ·exact hno _ hi
     ·exact hp.2 k hkk⟩ hK' hc' hk' hn) ((h.2 ha').2 i hi)
   exact ⟨fun h0 => absurd h0 (h.2 ha').1, step⟩
theorem wpAnyP_same {p1 : List Nat} {Q : Act → World → Prop} : ∀ (fuel : Nat) (listed : Array Bool) (K K' : Known) (a : Act), SameK K K' → wpAnyP P ops C R S p1 Q fuel listed K a → wpAnyP P ops C R S p1 Q fuel listed K' a
 | 0, _, _, _, _, hk, h => ⟨h.1, fun w hc ha => h.2 w hc (hk.allK.2 ha)⟩
 | fuel + 1, _, _, _, _, hk, h => ⟨fun h0 w hc ha => h.1 h0 w hc (hk.allK.2 ha), fun h0 => ⟨(h.2 h0).1, fun i hi => gOp_same hk (fun K K' a hk' hn => wpAnyP_same fuel _ K K' a hk' hn) ((h.2 h0).2 i hi)⟩⟩
theorem wpAnyP_first {p1 p2 : List Nat} {Q : Act → World → Prop} {i : Nat} {oi : Oper} (hi : ops[i]? = some oi) (hsel : ∀ (j : Nat) (o : Oper) cs b, ops[j]? = some o → o.op ≠ .select cs b) (hC : StableC R C) (hS : StableS R S) (hip : i ∈ p1)
  (hcov : ∀ k, k < ops.size → k ∈ p1 ∨ k ∈ p2) (hdep : ∀ j ∈ p2, depB ops ops.size j i = true) :
  ∀ (fuel : Nat) (listed : Array Bool) (K : Known) (a : Act), Shut ops listed → GoodK R listed K → Inh C K →
   (∀ j oj, ops[j]? = some oj → j ≠ i → listed.getD j true = false → (∀ e ∈ oj.after, Region.binds .any e = true → e.on ≠ i) → oi.apart ops oj = true) →
   i ∈ Region.ready .any ops listed →
   gOp P ops C R S i (wpAnyP P ops C R S p1 Q fuel (listed.setIfInBounds i true)) K a → wpAnyP P ops C R S p1 Q (fuel + 1) listed K a := by
 have hno : ∀ (listed : Array Bool), Shut ops listed → i ∈ Region.ready .any ops listed → ∀ j ∈ Region.ready .any ops listed, j ∈ p1 := fun listed hsh hr j hj => by
  obtain ⟨_, o, ho, _⟩ := mem_ready.1 hj
  rcases hcov j (Array.getElem?_eq_some_iff.1 ho).1 with h | h
  ·exact h
  ·have := depB_ready hsh hj (hdep j h)
   rw [not_listed_of_ready hr] at this
   cases this
 have hnall : ∀ (listed : Array Bool) (j : Nat), j ∈ p1 → j ∈ Region.ready .any ops listed → allListed p1 listed = true → False := fun listed j hj hr ha => by
  have := (List.all_eq_true.1 ha) j hj
  rw [not_listed_of_ready hr] at this
  cases this
 intro fuel
 induction fuel with
 | zero =>
  intro listed K a hsh hK hinh _ hr H
  refine ⟨fun h => (hnall listed i hip hr h).elim, fun _ => ⟨fun h => (by rw [h] at hr; cases hr), fun j hj => ?_⟩⟩
  by_cases hji : j = i
  ·subst hji; exact H
  ·obtain ⟨K', a', h0⟩ := gOp_inh hC hK hr hinh H
   exact (hnall _ j (hno listed hsh hr j hj) (ready_mono hj hji) h0.1).elim
 | succ fuel ih =>
  intro listed K a hsh hK hinh hfree hr H
  refine ⟨fun h => (hnall listed i hip hr h).elim, fun _ => ⟨fun h => (by rw [h] at hr; cases hr), fun j hj => ?_⟩⟩
  by_cases hji : j = i
  ·subst hji; exact H
  ·have hjp := hno listed hsh hr j hj
   obtain ⟨hjun, oj, hoj, hall⟩ := mem_ready.1 hj
   have hnot : ∀ e ∈ oj.after, Region.binds .any e = true → e.on ≠ i := fun e he hb heq => by
    have h1 := hall e he hb
    rw [heq, not_listed_of_ready hr] at h1
    cases h1
   have hfa : allListed p1 (listed.setIfInBounds i true) = false := by
    cases h : allListed p1 (listed.setIfInBounds i true)
    ·rfl
    ·exact (hnall _ j hjp (ready_mono hj hji) h).elim
   have H' : gOp P ops C R S i (fun K a => gOp P ops C R S j (wpAnyP P ops C R S p1 Q fuel ((listed.setIfInBounds i true).setIfInBounds j true)) K a) K a :=
    gOp_mono (fun K a h => (h.2 hfa).2 j (ready_mono hj hji)) H
   have h2 := gOp_comm (N' := wpAnyP P ops C R S p1 Q fuel ((listed.setIfInBounds j true).setIfInBounds i true)) hsh hi hoj (hfree j oj hoj hji hjun hnot) (fun cs b => hsel i oi cs b hi) (fun cs b => hsel j oj cs b hoj) hr hj
    (fun K K' a hk h => by rw [Array.setIfInBounds_comm _ _ hji]; exact wpAnyP_same fuel _ K K' a hk h) hC hK hinh H'
   have hfree' : ∀ k ok, ops[k]? = some ok → k ≠ i → (listed.setIfInBounds j true).getD k true = false →
     (∀ e ∈ ok.after, Region.binds .any e = true → e.on ≠ i) → oi.apart ops ok = true := fun k ok hk hki hun hno => by
    refine hfree k ok hk hki ?_ hno
    by_cases hjk : j = k
    ·subst hjk; exact hjun
    ·rw [getD_set_ne true hjk] at hun; exact hun
   exact gOp_mono (fun K' a' h3 => ih (listed.setIfInBounds j true) K' a' (hsh.set hj) h3.1 h3.2.1 hfree' (ready_mono hr (Ne.symm hji)) h3.2.2) (gOp_keep hS hK hj hinh h2)
def firstB (ops : Array Oper) : List Nat → Array Bool → Bool
 | [], _ => true
 | k :: p, listed => (Region.ready .any ops listed).contains k && Region.free .any ops listed k && firstB ops p (listed.setIfInBounds k true)
theorem wpAnyP_lex {p1 p2 : List Nat} {Q : Act → World → Prop} (hs : Region.noSelect ops = true) (hC : StableC R C) (hS : StableS R S)
  (hcov : ∀ k, k < ops.size → k ∈ p1 ∨ k ∈ p2) : ∀ (p : List Nat) (listed : Array Bool) (K : Known) (a : Act), (∀ i ∈ p, i ∈ p1 ∧ ∀ j ∈ p2, depB ops ops.size j i = true) → (∀ i ∈ p1, listed.getD i false = true ∨ i ∈ p) → Shut ops listed → listed.size = ops.size → GoodK R listed K → Inh C K →
  firstB ops p listed = true → wpGrowP P ops C R S Q p K a → wpAnyP P ops C R S p1 Q p.length listed K a
 | [], _, _, _, _, hall, _, _, _, _, _, h => ⟨List.all_eq_true.2 fun i hi => by simpa using hall i hi, h⟩
 | k :: p, listed, K, a, hsub, hall, hsh, hsz, hK, hinh, hB, h => by
  simp only [firstB, Bool.and_eq_true] at hB
  obtain ⟨⟨hr, hf⟩, hB'⟩ := hB
  have hr' : k ∈ Region.ready .any ops listed := by simpa using hr
  obtain ⟨_, o, h0, _⟩ := mem_ready.1 hr'
  have hk : k < listed.size := by rw [hsz]; exact (Array.getElem?_eq_some_iff.1 h0).1
  exact wpAnyP_first h0 (Region.noSelect_spec hs) hC hS (hsub k List.mem_cons_self).1 hcov (hsub k List.mem_cons_self).2 p.length listed K a hsh hK hinh (Region.free_spec h0 hf) hr'
   (gOp_mono (fun K' a' hk' => wpAnyP_lex hs hC hS hcov p _ K' a' (fun i hi => hsub i (List.mem_cons_of_mem _ hi)) (fun i hi => by
    rcases hall i hi with h | h
    ·exact .inl (getD_set_true h)
    ·rcases List.mem_cons.1 h with rfl | h
     ·exact .inl (by simp [hk])
     ·exact .inr h) (hsh.set hr') (by simpa using hsz) hk'.1 hk'.2.1 hB' hk'.2.2) (gOp_keep hS hK hr' hinh h))
def wpPure (P : Program) (ops : Array Oper) (Q : Act → Prop) : List Nat → Act → Prop
 | [], a => Q a
 | i :: rest, a => match ops[i]? with
  | none => False
  | some o => ∃ v, Yields P ops o v a ∧ wpPure P ops Q rest (a.put o.dst v)
theorem wpAny_pure {Q' : Exit → Act → World → Prop} {Q : Act → Prop} {w : World} (hs : Region.noSelect ops = true) (hnp : ∀ c a w, ¬ Q' (.panic c) a w) (n : Nat) : ∀ (p : List Nat) (listed : Array Bool) (a : Act), firstB ops p listed = true → wpPure P ops Q p a →
  (∀ a', Q a' → wpAny P .any ops Q' n (p.foldl (fun l i => l.setIfInBounds i true) listed) a' w) → wpAny P .any ops Q' (n + p.length) listed a w
 | [], _, _, _, h, hq => hq _ h
 | k :: p, listed, a, hB, h, hq => by
  simp only [firstB, Bool.and_eq_true] at hB
  obtain ⟨⟨hr, hf⟩, hB'⟩ := hB
  have hr' : k ∈ Region.ready .any ops listed := by simpa using hr
  obtain ⟨_, o, h0, _⟩ := mem_ready.1 hr'
  unfold wpPure at h
  simp only [h0] at h
  obtain ⟨v, hy, hn⟩ := h
  exact wpAny_first h0 (Region.noSelect_spec hs) (fun c a w h => (hnp c _ w h).elim) (n + p.length) listed a w (Region.free_spec h0 hf) hr' hy (wpAny_pure hs hnp n p _ _ hB' hn hq)
theorem Shut.fold : ∀ (p : List Nat) (listed : Array Bool), Shut ops listed → firstB ops p listed = true → Shut ops (p.foldl (fun l i => l.setIfInBounds i true) listed)
 | [], _, h, _ => h
 | k :: p, listed, h, hB => by
  simp only [firstB, Bool.and_eq_true] at hB
  exact Shut.fold p _ (h.set (by simpa using hB.1.1)) hB.2
def partB (l : List Oper) (p0 p1 p2 : List Nat) : Bool :=
 Region.noSelect l.toArray && firstB l.toArray p0 (Array.replicate l.toArray.size false) && firstB l.toArray p1 (listOf l.toArray.size p0) && forcedB l.toArray p2 (listOf l.toArray.size (p0 ++ p1)) &&
 ((List.range l.toArray.size).all fun k => p0.contains k || p1.contains k || p2.contains k) && (p2.all fun j => p1.all fun i => depB l.toArray l.toArray.size j i) && (p2.length + p1.length + p0.length == l.length) && (p0.all fun k => k < l.length)
def operOf (l : List Oper) (p : List Nat) : List Oper := p.filterMap fun k => l[k]?
theorem wpOps_of_list {l : List Oper} {Q : Exit → Act → World → Prop} : ∀ (p : List Nat), wpOps P l.toArray Q p = wpList P l.toArray Q (operOf l p)
 | [] => by funext a w; simp [wpOps, wpList, operOf]
 | k :: p => by
  funext a w
  cases h : l[k]? with
  | none => simp [wpOps, operOf, h, wpOps_of_list p]
  | some o => simp [wpOps, wpList, operOf, h, wpOps_of_list p]
theorem wp_region_parts (p0 p1 p2 : List Nat) (S : Spec) (C : World → Prop) (R : Nat → World → World → Prop) {id : Nat} {Q : Exit → Act → World → Prop} {a : Act} {w : World} {l : List Oper} (hS : StableS R S) (hC : StableC R C) (hm : P.follows .mixedOrders = true)
  (hB : partB l p0 p1 p2 = true) (hw : C w.drew)
  (h : wpPure P l.toArray (wpGrowP P l.toArray C R S (wpList P l.toArray (NoPanic Q) (operOf l p2)) p1 []) p0 a) : (Code.region id l.toArray true).wp P Q a w := by
 simp only [partB, Bool.and_eq_true] at hB
 obtain ⟨⟨⟨⟨⟨⟨⟨h1, h20⟩, h2⟩, h3⟩, h4⟩, h5⟩, h6⟩, h7⟩ := hB
 have hsh : Shut l.toArray (Array.replicate l.toArray.size false) := by
  intro j o _ hj
  by_cases hl : j < l.length <;> simp [Array.getD, hl] at hj
 have hsh0 : Shut l.toArray (listOf l.toArray.size p0) := Shut.fold p0 _ hsh h20
 have hcov : ∀ k, k < l.toArray.size → k ∈ p0 ++ p1 ∨ k ∈ p2 := fun k hk => by
  have := List.all_eq_true.1 h4 k (List.mem_range.2 hk)
  simp only [Bool.or_eq_true, List.contains_iff_mem] at this
  rcases this with (h | h) | h
  ·exact .inl (List.mem_append_left _ h)
  ·exact .inl (List.mem_append_right _ h)
  ·exact .inr h
 have hdep : ∀ j ∈ p2, ∀ i ∈ p1, depB l.toArray l.toArray.size j i = true := fun j hj i hi => List.all_eq_true.1 (List.all_eq_true.1 h5 j hj) i hi
 have hp0 : ∀ i ∈ p0, (listOf l.toArray.size p0).getD i false = true := fun i hi => by
  unfold listOf
  rw [foldl_get]
  exact .inr ⟨hi, by have := List.all_eq_true.1 h7 i hi; simpa using this⟩
 rw [← wpOps_of_list p2] at h
 have hK0 : ∀ listed, GoodK R listed ([] : Known) := fun listed x hx => by cases hx
 have ha0 : ∀ w, allK ([] : Known) w := fun w x hx => by cases hx
 have g := wpAny_pure (P := P) (Q' := NoPanic Q) (w := w.drew) h1 (fun _ _ _ h => h) (p2.length + p1.length) p0 (Array.replicate l.toArray.size false) a h20 h fun a' ha' => by
  have g1 := wpAnyP_lex (P := P) (p1 := p0 ++ p1) (p2 := p2) h1 hC hS hcov p1 (listOf l.toArray.size p0) [] a' (fun i hi => ⟨List.mem_append_right _ hi, fun j hj => hdep j hj i hi⟩)
   (fun i hi => by
    rcases List.mem_append.1 hi with h | h
    ·exact .inl (hp0 i h)
    ·exact .inr h) hsh0 (listOf_size _ _) (hK0 _) ⟨w.drew, hw, ha0 _⟩ h2 ha'
  exact wpAny_of_growP (p0 := p0) hS hC h3 hcov (fun j hj i hi => by
   rcases List.mem_append.1 hi with h | h
   ·exact .inl h
   ·exact .inr (hdep j hj i h)) p1.length _ [] a' w.drew hp0 hsh0 ⟨listOf_size _ _, fun k hk => by
    have hk := (foldl_get p0 _ k).1 hk
    rcases hk with hk | ⟨hk, _⟩
    ·by_cases hl : k < l.length <;> simp [Array.getD, hl] at hk
    ·exact List.mem_append_left _ hk⟩ (hK0 _) hw (ha0 _) g1
 rw [beq_iff_eq] at h6
 rw [h6] at g
 exact wp_region_noPanic (wp_region_any hm g)
theorem pure_run {Q : Act → Prop} {l : List Oper} {i : Nat} {o : Oper} {rest : List Nat} {a : Act} (ho : l[i]? = some o) (hw : Region.wanted o (yielded l.toArray a.tmps) = true)
  (h : ∃ v, (∀ w, (execOp a.eval o).run P w = .ok (.value v) w) ∧ wpPure P l.toArray Q rest (a.put o.dst v)) : wpPure P l.toArray Q (i :: rest) a := by
 obtain ⟨v, h1, h2⟩ := h
 unfold wpPure
 have ho' : l.toArray[i]? = some o := by simpa using ho
 simp only [ho']
 exact ⟨v, .inl ⟨hw, h1⟩, h2⟩
theorem pure_nil {Q : Act → Prop} {a : Act} (h : Q a) : wpPure P ops Q [] a := h
theorem growP_nil {Q : Act → World → Prop} {K : Known} {a : Act} (h : ∀ w, C w → allK K w → Q a w) : wpGrowP P ops C R S Q [] K a := h
theorem growP_run {Q : Act → World → Prop} {l : List Oper} {i : Nat} {o : Oper} {rest : List Nat} {K : Known} {a : Act} (ho : l[i]? = some o) (hs : S i = none) (hw : Region.wanted o (yielded l.toArray a.tmps) = true)
  (h : ∃ v, (∀ w, C w → knownAt l.toArray K i w → (execOp a.eval o).run P w = .ok (.value v) w) ∧ wpGrowP P l.toArray C R S Q rest K (a.put o.dst v)) : wpGrowP P l.toArray C R S Q (i :: rest) K a := by
 show gOp _ _ _ _ _ _ _ _ _
 unfold gOp
 have ho' : l.toArray[i]? = some o := by simpa using ho
 simp only [ho', hw, if_true, hs]
 exact h
theorem growP_eff {Q : Act → World → Prop} {l : List Oper} {i : Nat} {o : Oper} {rest : List Nat} {K : Known} {a : Act} {A : Value → World → Prop} (ho : l[i]? = some o) (hs : S i = some A) (hw : Region.wanted o (yielded l.toArray a.tmps) = true)
  (h1 : ∀ w, C w → knownAt l.toArray K i w → growAt P (R i) o a A w) (h : ∀ v, Inh C ((i, A v) :: K) → wpGrowP P l.toArray C R S Q rest ((i, A v) :: K) (a.put o.dst v)) : wpGrowP P l.toArray C R S Q (i :: rest) K a := by
 show gOp _ _ _ _ _ _ _ _ _
 unfold gOp
 have ho' : l.toArray[i]? = some o := by simpa using ho
 simp only [ho', hw, if_true, hs]
 exact ⟨h1, h⟩
end
end Go.Proofs.YtihaliffcobacaaGreatDoor.M
set_option maxHeartbeats 25600000
set_option maxRecDepth 20000
namespace Go.Proofs.YtihaliffcobacaaGreatDoor
open Go.RowKit Go.Maps
theorem eq_of_pw {α β : Type} {p : α → β} : ∀ {l : List α}, l.Pairwise (fun a b => p a ≠ p b) → ∀ {x y : α}, x ∈ l → y ∈ l → p x = p y → x = y
 | [], _, _, _, hx, _, _ => by cases hx
 | a :: l, hp, x, y, hx, hy, e => by
  obtain ⟨h1, h2⟩ := List.pairwise_cons.1 hp
  rcases List.mem_cons.1 hx with rfl | hx1
  ·rcases List.mem_cons.1 hy with rfl | hy1
   ·rfl
   ·exact absurd e (h1 y hy1)
  ·rcases List.mem_cons.1 hy with rfl | hy1
   ·exact absurd e.symm (h1 x hx1)
   ·exact eq_of_pw h2 hx1 hy1 e
def moreB (B : BS) (w w' : World) : BS := fun k => B k ∨ (w.heap.size ≤ k ∧ k < w'.heap.size)
theorem wpList_store_files {w : World} {ops : Array Oper} {rest : List Oper} {o : Oper} {a : Act} {Q : Exit → Act → World → Prop}
  (hg : o.guard = none) (mo x v : Operand) (hop : o.op = Op.mapUpdate TMAP mo x v) (m : Nat) (fs : List DF) (hm : a.eval mo = .map (some m)) (h : MapIs w m fs) (name : ByteArray) (hx : a.eval x = .string name)
  (hn : name.size ≤ maxLen) (hl : fs.length < maxLen) (hno : ∀ f ∈ fs, f.c.name ≠ name.data.toList) (f : DF) (hf : f.c.name = name.data.toList) (hv : a.eval v = .pointer (some ⟨f.blk, 0, none⟩))
  (hK : ∀ w', MapIs w' m (insF f fs) → Keep (· = m) w w' → wpList Tryz.prog ops Q rest (a.put o.dst undef) w') :
  wpList Tryz.prog ops Q (o :: rest) a w := by
 refine wpList_plain hg fun K' hK' => ?_
 obtain ⟨w', hrun, r1, r2⟩ := h.store hn hl hno f hf
 unfold Oper.wp
 simp [execOp, hop, hm, hx, hv, hrun, Result.andThen]
 exact hK' _ _ (hK w' r1 r2)
def AppIs (w : World) (B : BS) (d : Nat) (cs : List DC) (s : DSt) (name b : List UInt8) (e : Ending) (w' : World) : Prop :=
 e = .returned (.int .u16 (appR cs s name b).1) ∧ DiskIs w' (moreB B w w') d (appR cs s name b).2 { s with left := leftC s.left } ∧ Keep B w w'
theorem CallIs.disk {w w' : World} {B : BS} {d m : Nat} {fs : List DF} {s : DSt} {e : Ending} (h : CallIs w d s.left e w') (hd : DiskAt w B d m fs s) :
  e = .returned (.bool (goesC s.left)) ∧ DiskAt w' B d m fs { s with left := leftC s.left } ∧ Keep (· = d) w w' := by
 obtain ⟨h1, h2⟩ := h
 refine ⟨h1, ?_⟩
 split at h2
 ·subst h2
  exact ⟨hd.setLeft _, (Keep.refl _ _).set1 3 _⟩
 ·rename_i hn
  subst h2
  have : leftC s.left = s.left := by unfold leftC; rw [if_neg hn]
  rw [this]
  exact ⟨hd, Keep.refl _ _⟩
theorem disk_call' (w : World) (B : BS) (d m : Nat) (fs : List DF) (s : DSt) (h : DiskAt w B d m fs s) (hl : -1 ≤ s.left ∧ s.left ≤ 9223372036854775807) :
  Calls Tryz.prog 34 #[.pointer (some ⟨d, 0, none⟩)] w fun e w' => e = .returned (.bool (goesC s.left)) ∧ DiskAt w' B d m fs { s with left := leftC s.left } ∧ Keep (· = d) w w' :=
 (disk_call w d s.left h.cells.2.2.2 (h.blk.frozen 3) hl).mono fun e w' hc => hc.disk h
theorem DiskAt.setBytes {w w' : World} {B : BS} {d m : Nat} {fs : List DF} {s : DSt} {name : List UInt8} (h : DiskAt w B d m fs s) (hE : Ext w w') {f : DF} (hf : findF fs name = some f) {g : DC → DC} (hg : ∀ c, (g c).name = c.name) {v : Value}
  (hv : BytesS w' (fun k => w.heap.size ≤ k) v (g f.c).b) (hgl : (g f.c).l = f.c.l) (hle : f.c.l ≤ (g f.c).b.length) :
  DiskAt (w'.setCell ⟨f.blk, 0, none⟩ v) (moreB B w w') d m (updF g fs name) s := by
 obtain ⟨hmem, hname⟩ := findF_some hf
 have hlt := (h.files f hmem).2.lt
 have hk : Keep (· = f.blk) w' (w'.setCell ⟨f.blk, 0, none⟩ v) := (Keep.refl _ _).set1 0 _
 have hkw : Keep (· = f.blk) w (w'.setCell ⟨f.blk, 0, none⟩ v) := ((Keep.refl (· = f.blk) w).ext hE).trans hk fun _ _ e => e
 have hnd := h.ned hmem
 have hws : (w'.setCell ⟨f.blk, 0, none⟩ v).heap.size = w'.heap.size := by simp [World.setCell]
 refine ⟨.inl h.own, .inl h.ownm, h.blk.keep hkw (fun e => hnd.1 e.symm), (h.map.keep hkw (fun e => hnd.2 e.symm)).upd hg name, ?_, apart_updF h.apart⟩
 intro x hx
 obtain ⟨y, hy, eb, ex⟩ := mem_updF hx
 obtain ⟨hB, hfy⟩ := h.files y hy
 refine ⟨.inl (by rw [eb]; exact hB), ?_⟩
 by_cases hyn : y.c.name = name
 ·have hyf : y = f := eq_of_pw h.map.names hy hmem (hyn.trans hname.symm)
  subst hyf
  rw [if_pos hyn] at ex
  subst ex
  obtain ⟨A, k, _, _, _, _, _, _, hblk⟩ := hfy.cells
  refine ⟨v, ?_, ?_, by show (g y.c).l ≤ _; rw [hgl]; exact hle⟩
  ·have := (hblk.keep hE id).set_ 0 v
   show Blk _ y.blk TFIL #[v, .int .i64 ((g y.c).l : Int)]
   rw [hgl]
   simpa using this
  ·refine (hv.keep EU8.ok hk fun k h1 e => by omega).more EU8.ok fun k hk h1 => ⟨.inr ⟨h1, by rw [← hws]; exact hk⟩, ?_, ?_, ?_⟩
   ·intro e; have := h.blk.lt; omega
   ·intro e; have := h.map.lt; omega
   ·intro z hz e
    have : ∀ x ∈ updF g fs name, x.blk < w.heap.size := (blk_updF (p := fun b => b < w.heap.size)).2 fun x hx => (h.files x hx).2.lt
    have := this z hz
    omega
 ·rw [if_neg hyn] at ex
  subst ex
  have hne : x.blk ≠ f.blk := by
   intro e
   exact hyn ((eq_of_pw (p := DF.blk) h.apart hy hmem e).symm ▸ hname)
  refine (hfy.keep hkw hne fun k hk e => hk.2.2.2 f hmem e).more fun k hk h1 => ⟨.inl h1.1, h1.2.1, h1.2.2.1, ?_⟩
  exact (blk_updF (p := fun b => ¬ k = b)).2 h1.2.2.2
theorem insF_pw {R : DF → DF → Prop} {x : DF} : ∀ {fs : List DF}, fs.Pairwise R → (∀ f ∈ fs, R x f ∧ R f x) → (insF x fs).Pairwise R
 | [], _, _ => List.pairwise_singleton _ _
 | y :: r, hp, hx => by
  obtain ⟨h1, h2⟩ := List.pairwise_cons.1 hp
  rw [insF]
  split
  ·exact List.pairwise_cons.2 ⟨fun z hz => (hx z hz).1, hp⟩
  ·refine List.pairwise_cons.2 ⟨fun z hz => ?_, insF_pw h2 fun f hf => hx f (by simp [hf])⟩
   rcases mem_insF.1 hz with rfl | hz
   ·exact (hx y (by simp)).2
   ·exact h1 z hz
theorem DiskAt.addFile {w w2 : World} {B : BS} {d m : Nat} {fs : List DF} {s : DSt} {x : DF} (h : DiskAt w B d m fs s) (hm : MapIs w2 m (insF x fs)) (hkw : Keep (· = m) w w2) (hb : w.heap.size ≤ x.blk)
  (hx : FileAt w2 (fun k => w.heap.size ≤ k ∧ k ≠ x.blk) x.blk x.c) : DiskAt w2 (moreB B w w2) d m (insF x fs) s := by
 have hlt := hx.lt
 have hfl : ∀ f ∈ fs, f.blk < w.heap.size := fun f hf => (h.files f hf).2.lt
 have hdl := h.blk.lt
 have hml := h.map.lt
 refine ⟨.inl h.own, .inl h.ownm, h.blk.keep hkw h.ne, hm, ?_, ?_⟩
 ·intro f hf
  rcases mem_insF.1 hf with rfl | hf
  ·refine ⟨.inr ⟨hb, hlt⟩, hx.more fun k hk h1 => ⟨.inr ⟨h1.1, hk⟩, by omega, by omega, fun g hg e => ?_⟩⟩
   rcases mem_insF.1 hg with rfl | hg
   ·exact h1.2 e
   ·have := hfl g hg; omega
  ·obtain ⟨h1, h2⟩ := h.files f hf
   refine ⟨.inl h1, ((h2.more (S' := fun k => (B k ∧ k ≠ d ∧ k ≠ m ∧ ∀ g ∈ fs, k ≠ g.blk) ∧ k < w.heap.size) fun k hk h3 => ⟨h3, hk⟩).keep hkw (h.ned hf).2 fun k hk => hk.1.2.2.1).more fun k hk h3 => ⟨.inl h3.1.1, h3.1.2.1, h3.1.2.2.1, fun g hg e => ?_⟩⟩
   rcases mem_insF.1 hg with rfl | hg
   ·have := h3.2; omega
   ·exact h3.1.2.2.2 g hg e
 ·exact insF_pw h.apart fun f hf => ⟨fun e => by have := hfl f hf; omega, fun e => by have := hfl f hf; omega⟩
theorem MapIs.same {w : World} {m : Nat} {fs gs : List DF} (h : MapIs w m fs) (e : fs.map ent = gs.map ent) : MapIs w m gs := by
 have hl : fs.length = gs.length := by have := congrArg List.length e; simpa using this
 unfold MapIs at h ⊢
 rw [← hl, ← e]; exact h
theorem ins_ent {x y : DF} (e : ent x = ent y) (fs : List DF) : (insF x fs).map ent = (insF y fs).map ent := by rw [← insert_ent, ← insert_ent, e]
theorem mem_usedC {c : DC} : ∀ {cs : List DC}, c ∈ cs → c.b.length ≤ usedC cs
 | x :: r, h => by
  rw [usedC_cons]
  rcases List.mem_cons.1 h with rfl | h
  ·omega
  ·have := mem_usedC h; omega
theorem bytes_apart {w : World} {S : BS} {v : Value} {l : List UInt8} {g : Nat} {t : TypeId} {cs : Array Value} (h : BytesS w S v l) (hb : Blk w g t cs) (hc : ∀ (j : Nat) (x : UInt8), cs[j]? ≠ some (U8 x)) : BytesS w (fun k => S k ∧ k ≠ g) v l := by
 obtain ⟨ks, ⟨h0, A, c, rfl, h1, h2, h3⟩, h4⟩ := h
 have hks := cells_U8 h4
 refine ⟨ks, ⟨h0, A, c, rfl, h1, h2, fun hn => ?_⟩, by rw [hks]; exact U8_cells l⟩
 obtain ⟨b, off, e, hs, hlt, hcell⟩ := h3 hn
 refine ⟨b, off, e, ⟨hs, fun eb => ?_⟩, hlt, hcell⟩
 subst eb
 obtain ⟨x, l', rfl⟩ : ∃ x l', l = x :: l' := by
  cases l with
  | nil => simp at hn
  | cons x l' => exact ⟨x, l', rfl⟩
 have := hcell 0 (U8 x) (by rw [hks]; rfl)
 rw [Nat.add_zero, hb.cell] at this
 exact hc _ _ this
theorem bytes_notmap {w : World} {S : BS} {v : Value} {l : List UInt8} {m : Nat} {fs : List DF} (h : BytesS w S v l) (hb : MapIs w m fs) : BytesS w (fun k => S k ∧ k ≠ m) v l := by
 obtain ⟨ks, ⟨h0, A, c, rfl, h1, h2, h3⟩, h4⟩ := h
 have hks := cells_U8 h4
 refine ⟨ks, ⟨h0, A, c, rfl, h1, h2, fun hn => ?_⟩, by rw [hks]; exact U8_cells l⟩
 obtain ⟨b, off, e, hs, hlt, hcell⟩ := h3 hn
 refine ⟨b, off, e, ⟨hs, fun eb => ?_⟩, hlt, hcell⟩
 subst eb
 obtain ⟨x, l', rfl⟩ : ∃ x l', l = x :: l' := by
  cases l with
  | nil => simp at hn
  | cons x l' => exact ⟨x, l', rfl⟩
 have := hcell 0 (U8 x) (by rw [hks]; rfl)
 obtain ⟨es, clock, hm, _⟩ := hb
 simp [World.cell?, hm] at this
theorem eql_pfi (w : World) (p : Option Addr) : (Go.binOp .eql 84 (.pointer p) (.pointer none)).run Tryz.prog w = .ok (.bool p.isNone) w := run_eql_pointer_nil w _ p (by kernel_rfl)
theorem eql_pdsk (w : World) (p : Option Addr) : (Go.binOp .eql 28 (.pointer p) (.pointer none)).run Tryz.prog w = .ok (.bool p.isNone) w := run_eql_pointer_nil w _ p (by kernel_rfl)
theorem dsk_noU8 (m : Nat) (a : Int) (b : Bool) (c : Int) (j : Nat) (x : UInt8) : (#[Value.map (some m), .int .i64 a, .bool b, .int .i64 c] : Array Value)[j]? ≠ some (U8 x) := by
 rcases j with _ | _ | _ | _ | j <;> simp [U8]
theorem appR_full {cs : List DC} {s : DSt} {name b : List UInt8} (h : fullC cs s b.length = true) : appR cs s name b = (130, cs) := by rw [appR, if_pos h]
theorem appR_has {cs : List DC} {s : DSt} {name b : List UInt8} (h : fullC cs s b.length = false) (h2 : hasC cs name = true) : appR cs s name b = (0, updC (moreC b) cs name) := by rw [appR, if_neg (by simp [h]), if_pos h2]
theorem appR_new {cs : List DC} {s : DSt} {name b : List UInt8} (h : fullC cs s b.length = false) (h2 : hasC cs name = false) (h3 : mayC cs.length name = true) : appR cs s name b = (0, insC ⟨name, b, 0⟩ cs) := by rw [appR, if_neg (by simp [h]), if_neg (by simp [h2]), if_pos h3]
theorem appR_no {cs : List DC} {s : DSt} {name b : List UInt8} (h : fullC cs s b.length = false) (h2 : hasC cs name = false) (h3 : mayC cs.length name = false) : appR cs s name b = (130, cs) := by rw [appR, if_neg (by simp [h]), if_neg (by simp [h2]), if_neg (by simp [h3])]
theorem DOk.left' {cs : List DC} {s : DSt} (h : DOk cs s) : DOk cs { s with left := leftC s.left } := ⟨h.room, h.used, h.many, h.names, leftC_ok h.left⟩
theorem app_ok {cs : List DC} {s : DSt} {name b : List UInt8} (h : DOk cs s) (hp : cs.Pairwise fun x y => x.name ≠ y.name) : DOk (appR cs s name b).2 { s with left := leftC s.left } := by
 by_cases h1 : fullC cs s b.length = true
 ·rw [appR_full h1]; exact h.left'
 ·have h1 : fullC cs s b.length = false := by simpa using h1
  have hroom : usedC cs + b.length ≤ s.room := by
   unfold fullC at h1
   simp only [Bool.or_eq_false_iff, decide_eq_false_iff_not] at h1
   have := h1.2; omega
  by_cases h2 : hasC cs name = true
  ·rw [appR_has h1 h2]
   obtain ⟨c, hc, hn⟩ := List.any_eq_true.1 h2
   have hn : c.name = name := by simpa using hn
   have hu := usedC_upd (moreC b) hp hc
   rw [hn] at hu
   have e : (moreC b c).b.length = c.b.length + b.length := by show (c.b ++ b).length = _; simp
   refine ⟨h.room, by show usedC (updC _ _ _) ≤ s.room; omega, by show (updC (moreC b) cs name).length ≤ 64; unfold updC; rw [List.length_map]; exact h.many, fun x hx => ?_, leftC_ok h.left⟩
   obtain ⟨y, hy, e⟩ := List.mem_map.1 hx
   have := h.names y hy
   subst e
   split
   ·exact this
   ·exact this
  ·have h2 : hasC cs name = false := by simpa using h2
   by_cases h3 : mayC cs.length name = true
   ·rw [appR_new h1 h2 h3]
    unfold mayC at h3
    simp only [Bool.and_eq_true, decide_eq_true_eq, Bool.not_eq_true', List.isEmpty_eq_false_iff] at h3
    refine ⟨h.room, by show usedC (insC _ _) ≤ s.room; rw [usedC_ins]; exact hroom, by show (insC _ _).length ≤ 64; rw [insC_length]; omega, fun x hx => ?_, leftC_ok h.left⟩
    rcases mem_insC.1 hx with rfl | hx
    ·exact ⟨List.length_pos_iff.2 h3.1.2, h3.2⟩
    ·exact h.names x hx
   ·rw [appR_no h1 h2 (by simpa using h3)]; exact h.left'
theorem DiskAt.pw {w : World} {B : BS} {d m : Nat} {fs : List DF} {s : DSt} (h : DiskAt w B d m fs s) : (fs.map DF.c).Pairwise fun x y => x.name ≠ y.name := List.pairwise_map.2 h.map.names
end Go.Proofs.YtihaliffcobacaaGreatDoor
