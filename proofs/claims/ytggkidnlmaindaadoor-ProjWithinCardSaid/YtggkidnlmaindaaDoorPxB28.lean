/- GrowMTail, GrowU, TurnK, TurnL, TurnM, Do4B, Do4C, SeqE: laid together. -/
import Derived.Test.YtggkidnlmaindaaDoorPxB27
import Derived.Deep.RegionHeld3
import Derived.Test.YtggkidnlmaindaaDoorPxB22
import Derived.Test.YtggkidnlmaindaaDoorPxB24
import Derived.Test.YtggkidnlmaindaaDoorPxB26
import Derived.Deep.CutRange
import Derived.Deep.DeepCutAuto
import Derived.BigQuiet
set_option linter.unusedSimpArgs false
set_option linter.unusedVariables false
namespace Go.Proofs.YtggkidnlmaindaaDoor.M
open Go.RowKit
section
variable (P : Program) (ops : Array Oper) (C : World → Prop) (R : Nat → World → World → Prop) (S : Spec)
def wpGrowP (Q : Act → World → Prop) : List Nat → Known → Act → Prop
 | [], K, a => ∀ w, C w → allK K w → Q a w
 | i :: rest, K, a => gOp P ops C R S i (wpGrowP Q rest) K a
def allListed (p1 : List Nat) (listed : Array Bool) : Bool := p1.all fun i => listed.getD i false
def wpAnyP (p1 : List Nat) (Q : Act → World → Prop) : Nat → Array Bool → Known → Act → Prop
 | 0, listed, K, a => allListed p1 listed = true ∧ ∀ w, C w → allK K w → Q a w
 | fuel + 1, listed, K, a =>
  (allListed p1 listed = true → ∀ w, C w → allK K w → Q a w) ∧
  (allListed p1 listed = false → Region.ready .any ops listed ≠ [] ∧ ∀ i ∈ Region.ready .any ops listed, gOp P ops C R S i (wpAnyP p1 Q fuel (listed.setIfInBounds i true)) K a)
end
section
variable {P : Program} {ops : Array Oper} {C : World → Prop} {R : Nat → World → World → Prop} {S : Spec}
theorem wpAny_more {Q : Exit → Act → World → Prop} : ∀ (n : Nat) (listed : Array Bool) (a : Act) (w : World), wpAny P .any ops Q n listed a w → wpAny P .any ops Q (n + 1) listed a w
 | 0, _, _, _, h => ⟨fun _ => h.2, fun i hi => by rw [h.1] at hi; cases hi⟩
 | n + 1, _, _, _, h => ⟨h.1, fun i hi => wpOp_mono (fun a w hh => wpAny_more n _ a w hh) (h.2 i hi)⟩
theorem wpAny_add {Q : Exit → Act → World → Prop} {n : Nat} {listed : Array Bool} {a : Act} {w : World} (k : Nat) (h : wpAny P .any ops Q n listed a w) : wpAny P .any ops Q (n + k) listed a w := by
 induction k with
 | zero => exact h
 | succ k ih => exact wpAny_more _ _ _ _ ih
def forcedB (ops : Array Oper) : List Nat → Array Bool → Bool
 | [], listed => (Region.ready .any ops listed).isEmpty
 | k :: p, listed => Region.ready .any ops listed == [k] && forcedB ops p (listed.setIfInBounds k true)
theorem wpAny_forced {Q : Exit → Act → World → Prop} : ∀ (p : List Nat) (listed : Array Bool) (a : Act) (w : World), forcedB ops p listed = true → wpOps P ops Q p a w → wpAny P .any ops Q p.length listed a w
 | [], _, _, _, hB, h => ⟨by simpa [forcedB] using hB, h⟩
 | k :: p, listed, a, w, hB, h => by
  simp only [forcedB, Bool.and_eq_true, beq_iff_eq] at hB
  refine ⟨fun h0 => (by rw [hB.1] at h0; cases h0), fun i hi => ?_⟩
  rw [hB.1] at hi
  obtain rfl : i = k := by simpa using hi
  rw [wpOps_cons] at h
  exact wpOp_mono (fun a w hh => wpAny_forced p _ a w hB.2 hh) h
def Part (ops : Array Oper) (p1 : List Nat) (listed : Array Bool) : Prop := listed.size = ops.size ∧ ∀ k, listed.getD k false = true → k ∈ p1
def listOf (n : Nat) (p : List Nat) : Array Bool := p.foldl (fun l i => l.setIfInBounds i true) (Array.replicate n false)
theorem listOf_size (n : Nat) (p : List Nat) : (listOf n p).size = n := by
 unfold listOf
 suffices ∀ (l : Array Bool), (p.foldl (fun l i => l.setIfInBounds i true) l).size = l.size by rw [this]; simp
 induction p with
 | nil => intro l; rfl
 | cons i p ih => intro l; rw [List.foldl_cons, ih]; simp
theorem foldl_get (p : List Nat) : ∀ (l : Array Bool) (k : Nat), (p.foldl (fun l i => l.setIfInBounds i true) l).getD k false = true ↔ (l.getD k false = true ∨ (k ∈ p ∧ k < l.size)) := by
 induction p with
 | nil => intro l k; simp
 | cons i p ih =>
  intro l k
  rw [List.foldl_cons, ih]
  by_cases h : i = k
  ·subst h
   by_cases hs : i < l.size <;> simp [hs]
  ·rw [getD_set_ne false h]
   simp [Ne.symm h]
theorem listed_eq {p1 : List Nat} {listed : Array Bool} (hp : Part ops p1 listed) (ha : allListed p1 listed = true) : listed = listOf ops.size p1 := by
 apply Array.ext
 ·rw [listOf_size, hp.1]
 ·intro k h1 h2
  have e1 : listed.getD k false = listed[k] := by simp [h1]
  have e2 : (listOf ops.size p1).getD k false = (listOf ops.size p1)[k] := by simp [h2]
  rw [← e1, ← e2, Bool.eq_iff_iff]
  unfold listOf
  rw [foldl_get]
  constructor
  ·intro h; exact .inr ⟨hp.2 k h, by simpa [hp.1] using h1⟩
  ·rintro (h | ⟨h, _⟩)
   ·simp [Array.getElem?_replicate] at h
    split at h <;> simp at h
   ·exact (List.all_eq_true.1 ha) k h
theorem wpAny_of_growP {p0 p1 p2 : List Nat} {Q' : Exit → Act → World → Prop} (hS : StableS R S) (hC : StableC R C) (hF : forcedB ops p2 (listOf ops.size p1) = true) (hcov : ∀ k, k < ops.size → k ∈ p1 ∨ k ∈ p2)
  (hdep : ∀ j ∈ p2, ∀ i ∈ p1, i ∈ p0 ∨ depB ops ops.size j i = true) : ∀ (fuel : Nat) (listed : Array Bool) (K : Known) (a : Act) (w : World),
  (∀ i ∈ p0, listed.getD i false = true) → Shut ops listed → Part ops p1 listed → GoodK R listed K → C w → allK K w → wpAnyP P ops C R S p1 (wpOps P ops Q' p2) fuel listed K a → wpAny P .any ops Q' (p2.length + fuel) listed a w
 | 0, _, _, _, _, _, _, hp, _, hc, hk, h => by
  rw [listed_eq hp h.1]
  exact wpAny_forced _ _ _ _ hF (h.2 _ hc hk)
 | fuel + 1, listed, K, a, w, hz0, hsh, hp, hK, hc, hk, h => by
  by_cases ha : allListed p1 listed = true
  ·rw [listed_eq hp ha]
   exact wpAny_add _ (wpAny_forced _ _ _ _ hF (h.1 ha _ hc hk))
  ·have ha' : allListed p1 listed = false := by simpa using ha
   obtain ⟨i0, hi0, hn0⟩ : ∃ i ∈ p1, listed.getD i false = false := by
    have := ha
    simp only [allListed, List.all_eq_true] at this
    simpa using this
   have hno : ∀ i ∈ Region.ready .any ops listed, i ∈ p1 := fun i hi => by
    obtain ⟨_, o, ho, _⟩ := mem_ready.1 hi
    have hlt : i < ops.size := (Array.getElem?_eq_some_iff.1 ho).1
    rcases hcov i hlt with h | h
    ·exact h
    ·rcases hdep i h i0 hi0 with h1 | h1
     ·have := hz0 i0 h1
      rw [hn0] at this
      cases this
     ·have := depB_ready hsh hi h1
      rw [hn0] at this
      cases this
   have step : ∀ i ∈ Region.ready .any ops listed, wpOp P ops Q' i (wpAny P .any ops Q' (p2.length + fuel) (listed.setIfInBounds i true)) a w := fun i hi =>
    wpOp_of_gOp hS hC hK hi hc hk (fun K' a' w' hK' hc' hk' hn => wpAny_of_growP hS hC hF hcov hdep fuel _ K' a' w' (fun i hi => getD_set_true (hz0 i hi)) (hsh.set hi) ⟨by simpa using hp.1, fun k hkk => by
     rcases getD_set_cases hkk with rfl | hkk
     ·exact hno _ hi
     ·exact hp.2 k hkk⟩ hK' hc' hk' hn) ((h.2 ha').2 i hi)
   exact ⟨fun h0 => absurd h0 (h.2 ha').1, step⟩
theorem wpAnyP_same {p1 : List Nat} {Q : Act → World → Prop} : ∀ (fuel : Nat) (listed : Array Bool) (K K' : Known) (a : Act), SameK K K' → wpAnyP P ops C R S p1 Q fuel listed K a → wpAnyP P ops C R S p1 Q fuel listed K' a
 | 0, _, _, _, _, hk, h => ⟨h.1, fun w hc ha => h.2 w hc (hk.allK.2 ha)⟩
 | fuel + 1, _, _, _, _, hk, h => ⟨fun h0 w hc ha => h.1 h0 w hc (hk.allK.2 ha), fun h0 => ⟨(h.2 h0).1, fun i hi => gOp_same hk (fun K K' a hk' hn => wpAnyP_same fuel _ K K' a hk' hn) ((h.2 h0).2 i hi)⟩⟩
theorem wpAnyP_first {p1 p2 : List Nat} {Q : Act → World → Prop} {i : Nat} {oi : Oper} (hi : ops[i]? = some oi) (hsel : ∀ (j : Nat) (o : Oper) cs b, ops[j]? = some o → o.op ≠ .select cs b) (hC : StableC R C) (hS : StableS R S) (hip : i ∈ p1)
  (hcov : ∀ k, k < ops.size → k ∈ p1 ∨ k ∈ p2) (hdep : ∀ j ∈ p2, depB ops ops.size j i = true) :
  ∀ (fuel : Nat) (listed : Array Bool) (K : Known) (a : Act), Shut ops listed → GoodK R listed K → Inh C K →
   (∀ j oj, ops[j]? = some oj → j ≠ i → listed.getD j true = false → (∀ e ∈ oj.after, Region.binds .any e = true → e.on ≠ i) → oi.apart ops oj = true) →
   i ∈ Region.ready .any ops listed →
   gOp P ops C R S i (wpAnyP P ops C R S p1 Q fuel (listed.setIfInBounds i true)) K a → wpAnyP P ops C R S p1 Q (fuel + 1) listed K a := by
 have hno : ∀ (listed : Array Bool), Shut ops listed → i ∈ Region.ready .any ops listed → ∀ j ∈ Region.ready .any ops listed, j ∈ p1 := fun listed hsh hr j hj => by
  obtain ⟨_, o, ho, _⟩ := mem_ready.1 hj
  rcases hcov j (Array.getElem?_eq_some_iff.1 ho).1 with h | h
  ·exact h
  ·have := depB_ready hsh hj (hdep j h)
   rw [not_listed_of_ready hr] at this
   cases this
 have hnall : ∀ (listed : Array Bool) (j : Nat), j ∈ p1 → j ∈ Region.ready .any ops listed → allListed p1 listed = true → False := fun listed j hj hr ha => by
  have := (List.all_eq_true.1 ha) j hj
  rw [not_listed_of_ready hr] at this
  cases this
 intro fuel
 induction fuel with
 | zero =>
  intro listed K a hsh hK hinh _ hr H
  refine ⟨fun h => (hnall listed i hip hr h).elim, fun _ => ⟨fun h => (by rw [h] at hr; cases hr), fun j hj => ?_⟩⟩
  by_cases hji : j = i
  ·subst hji; exact H
  ·obtain ⟨K', a', h0⟩ := gOp_inh hC hK hr hinh H
   exact (hnall _ j (hno listed hsh hr j hj) (ready_mono hj hji) h0.1).elim
 | succ fuel ih =>
  intro listed K a hsh hK hinh hfree hr H
  refine ⟨fun h => (hnall listed i hip hr h).elim, fun _ => ⟨fun h => (by rw [h] at hr; cases hr), fun j hj => ?_⟩⟩
  by_cases hji : j = i
  ·subst hji; exact H
  ·have hjp := hno listed hsh hr j hj
   obtain ⟨hjun, oj, hoj, hall⟩ := mem_ready.1 hj
   have hnot : ∀ e ∈ oj.after, Region.binds .any e = true → e.on ≠ i := fun e he hb heq => by
    have h1 := hall e he hb
    rw [heq, not_listed_of_ready hr] at h1
    cases h1
   have hfa : allListed p1 (listed.setIfInBounds i true) = false := by
    cases h : allListed p1 (listed.setIfInBounds i true)
    ·rfl
    ·exact (hnall _ j hjp (ready_mono hj hji) h).elim
   have H' : gOp P ops C R S i (fun K a => gOp P ops C R S j (wpAnyP P ops C R S p1 Q fuel ((listed.setIfInBounds i true).setIfInBounds j true)) K a) K a :=
    gOp_mono (fun K a h => (h.2 hfa).2 j (ready_mono hj hji)) H
   have h2 := gOp_comm (N' := wpAnyP P ops C R S p1 Q fuel ((listed.setIfInBounds j true).setIfInBounds i true)) hsh hi hoj (hfree j oj hoj hji hjun hnot) (fun cs b => hsel i oi cs b hi) (fun cs b => hsel j oj cs b hoj) hr hj
    (fun K K' a hk h => by rw [Array.setIfInBounds_comm _ _ hji]; exact wpAnyP_same fuel _ K K' a hk h) hC hK hinh H'
   have hfree' : ∀ k ok, ops[k]? = some ok → k ≠ i → (listed.setIfInBounds j true).getD k true = false →
     (∀ e ∈ ok.after, Region.binds .any e = true → e.on ≠ i) → oi.apart ops ok = true := fun k ok hk hki hun hno => by
    refine hfree k ok hk hki ?_ hno
    by_cases hjk : j = k
    ·subst hjk; exact hjun
    ·rw [getD_set_ne true hjk] at hun; exact hun
   exact gOp_mono (fun K' a' h3 => ih (listed.setIfInBounds j true) K' a' (hsh.set hj) h3.1 h3.2.1 hfree' (ready_mono hr (Ne.symm hji)) h3.2.2) (gOp_keep hS hK hj hinh h2)
def firstB (ops : Array Oper) : List Nat → Array Bool → Bool
 | [], _ => true
 | k :: p, listed => (Region.ready .any ops listed).contains k && Region.free .any ops listed k && firstB ops p (listed.setIfInBounds k true)
theorem wpAnyP_lex {p1 p2 : List Nat} {Q : Act → World → Prop} (hs : Region.noSelect ops = true) (hC : StableC R C) (hS : StableS R S)
  (hcov : ∀ k, k < ops.size → k ∈ p1 ∨ k ∈ p2) : ∀ (p : List Nat) (listed : Array Bool) (K : Known) (a : Act), (∀ i ∈ p, i ∈ p1 ∧ ∀ j ∈ p2, depB ops ops.size j i = true) → (∀ i ∈ p1, listed.getD i false = true ∨ i ∈ p) → Shut ops listed → listed.size = ops.size → GoodK R listed K → Inh C K →
  firstB ops p listed = true → wpGrowP P ops C R S Q p K a → wpAnyP P ops C R S p1 Q p.length listed K a
 | [], _, _, _, _, hall, _, _, _, _, _, h => ⟨List.all_eq_true.2 fun i hi => by simpa using hall i hi, h⟩
 | k :: p, listed, K, a, hsub, hall, hsh, hsz, hK, hinh, hB, h => by
  simp only [firstB, Bool.and_eq_true] at hB
  obtain ⟨⟨hr, hf⟩, hB'⟩ := hB
  have hr' : k ∈ Region.ready .any ops listed := by simpa using hr
  obtain ⟨_, o, h0, _⟩ := mem_ready.1 hr'
  have hk : k < listed.size := by rw [hsz]; exact (Array.getElem?_eq_some_iff.1 h0).1
  exact wpAnyP_first h0 (Region.noSelect_spec hs) hC hS (hsub k List.mem_cons_self).1 hcov (hsub k List.mem_cons_self).2 p.length listed K a hsh hK hinh (Region.free_spec h0 hf) hr'
   (gOp_mono (fun K' a' hk' => wpAnyP_lex hs hC hS hcov p _ K' a' (fun i hi => hsub i (List.mem_cons_of_mem _ hi)) (fun i hi => by
    rcases hall i hi with h | h
    ·exact .inl (getD_set_true h)
    ·rcases List.mem_cons.1 h with rfl | h
     ·exact .inl (by simp [hk])
     ·exact .inr h) (hsh.set hr') (by simpa using hsz) hk'.1 hk'.2.1 hB' hk'.2.2) (gOp_keep hS hK hr' hinh h))
def wpPure (P : Program) (ops : Array Oper) (Q : Act → Prop) : List Nat → Act → Prop
 | [], a => Q a
 | i :: rest, a => match ops[i]? with
  | none => False
  | some o => ∃ v, Yields P ops o v a ∧ wpPure P ops Q rest (a.put o.dst v)
theorem wpAny_pure {Q' : Exit → Act → World → Prop} {Q : Act → Prop} {w : World} (hs : Region.noSelect ops = true) (hnp : ∀ c a w, ¬ Q' (.panic c) a w) (n : Nat) : ∀ (p : List Nat) (listed : Array Bool) (a : Act), firstB ops p listed = true → wpPure P ops Q p a →
  (∀ a', Q a' → wpAny P .any ops Q' n (p.foldl (fun l i => l.setIfInBounds i true) listed) a' w) → wpAny P .any ops Q' (n + p.length) listed a w
 | [], _, _, _, h, hq => hq _ h
 | k :: p, listed, a, hB, h, hq => by
  simp only [firstB, Bool.and_eq_true] at hB
  obtain ⟨⟨hr, hf⟩, hB'⟩ := hB
  have hr' : k ∈ Region.ready .any ops listed := by simpa using hr
  obtain ⟨_, o, h0, _⟩ := mem_ready.1 hr'
  unfold wpPure at h
  simp only [h0] at h
  obtain ⟨v, hy, hn⟩ := h
  exact wpAny_first h0 (Region.noSelect_spec hs) (fun c a w h => (hnp c _ w h).elim) (n + p.length) listed a w (Region.free_spec h0 hf) hr' hy (wpAny_pure hs hnp n p _ _ hB' hn hq)
theorem Shut.fold : ∀ (p : List Nat) (listed : Array Bool), Shut ops listed → firstB ops p listed = true → Shut ops (p.foldl (fun l i => l.setIfInBounds i true) listed)
 | [], _, h, _ => h
 | k :: p, listed, h, hB => by
  simp only [firstB, Bool.and_eq_true] at hB
  exact Shut.fold p _ (h.set (by simpa using hB.1.1)) hB.2
def partB (l : List Oper) (p0 p1 p2 : List Nat) : Bool :=
 Region.noSelect l.toArray && firstB l.toArray p0 (Array.replicate l.toArray.size false) && firstB l.toArray p1 (listOf l.toArray.size p0) && forcedB l.toArray p2 (listOf l.toArray.size (p0 ++ p1)) &&
 ((List.range l.toArray.size).all fun k => p0.contains k || p1.contains k || p2.contains k) && (p2.all fun j => p1.all fun i => depB l.toArray l.toArray.size j i) && (p2.length + p1.length + p0.length == l.length) && (p0.all fun k => k < l.length)
def operOf (l : List Oper) (p : List Nat) : List Oper := p.filterMap fun k => l[k]?
theorem wpOps_of_list {l : List Oper} {Q : Exit → Act → World → Prop} : ∀ (p : List Nat), wpOps P l.toArray Q p = wpList P l.toArray Q (operOf l p)
 | [] => by funext a w; simp [wpOps, wpList, operOf]
 | k :: p => by
  funext a w
  cases h : l[k]? with
  | none => simp [wpOps, operOf, h, wpOps_of_list p]
  | some o => simp [wpOps, wpList, operOf, h, wpOps_of_list p]
theorem wp_region_parts (p0 p1 p2 : List Nat) (S : Spec) (C : World → Prop) (R : Nat → World → World → Prop) {id : Nat} {Q : Exit → Act → World → Prop} {a : Act} {w : World} {l : List Oper} (hS : StableS R S) (hC : StableC R C) (hm : P.follows .mixedOrders = true)
  (hB : partB l p0 p1 p2 = true) (hw : C w.drew)
  (h : wpPure P l.toArray (wpGrowP P l.toArray C R S (wpList P l.toArray (NoPanic Q) (operOf l p2)) p1 []) p0 a) : (Code.region id l.toArray true).wp P Q a w := by
 simp only [partB, Bool.and_eq_true] at hB
 obtain ⟨⟨⟨⟨⟨⟨⟨h1, h20⟩, h2⟩, h3⟩, h4⟩, h5⟩, h6⟩, h7⟩ := hB
 have hsh : Shut l.toArray (Array.replicate l.toArray.size false) := by
  intro j o _ hj
  by_cases hl : j < l.length <;> simp [Array.getD, hl] at hj
 have hsh0 : Shut l.toArray (listOf l.toArray.size p0) := Shut.fold p0 _ hsh h20
 have hcov : ∀ k, k < l.toArray.size → k ∈ p0 ++ p1 ∨ k ∈ p2 := fun k hk => by
  have := List.all_eq_true.1 h4 k (List.mem_range.2 hk)
  simp only [Bool.or_eq_true, List.contains_iff_mem] at this
  rcases this with (h | h) | h
  ·exact .inl (List.mem_append_left _ h)
  ·exact .inl (List.mem_append_right _ h)
  ·exact .inr h
 have hdep : ∀ j ∈ p2, ∀ i ∈ p1, depB l.toArray l.toArray.size j i = true := fun j hj i hi => List.all_eq_true.1 (List.all_eq_true.1 h5 j hj) i hi
 have hp0 : ∀ i ∈ p0, (listOf l.toArray.size p0).getD i false = true := fun i hi => by
  unfold listOf
  rw [foldl_get]
  exact .inr ⟨hi, by have := List.all_eq_true.1 h7 i hi; simpa using this⟩
 rw [← wpOps_of_list p2] at h
 have hK0 : ∀ listed, GoodK R listed ([] : Known) := fun listed x hx => by cases hx
 have ha0 : ∀ w, allK ([] : Known) w := fun w x hx => by cases hx
 have g := wpAny_pure (P := P) (Q' := NoPanic Q) (w := w.drew) h1 (fun _ _ _ h => h) (p2.length + p1.length) p0 (Array.replicate l.toArray.size false) a h20 h fun a' ha' => by
  have g1 := wpAnyP_lex (P := P) (p1 := p0 ++ p1) (p2 := p2) h1 hC hS hcov p1 (listOf l.toArray.size p0) [] a' (fun i hi => ⟨List.mem_append_right _ hi, fun j hj => hdep j hj i hi⟩)
   (fun i hi => by
    rcases List.mem_append.1 hi with h | h
    ·exact .inl (hp0 i h)
    ·exact .inr h) hsh0 (listOf_size _ _) (hK0 _) ⟨w.drew, hw, ha0 _⟩ h2 ha'
  exact wpAny_of_growP (p0 := p0) hS hC h3 hcov (fun j hj i hi => by
   rcases List.mem_append.1 hi with h | h
   ·exact .inl h
   ·exact .inr (hdep j hj i h)) p1.length _ [] a' w.drew hp0 hsh0 ⟨listOf_size _ _, fun k hk => by
    have hk := (foldl_get p0 _ k).1 hk
    rcases hk with hk | ⟨hk, _⟩
    ·by_cases hl : k < l.length <;> simp [Array.getD, hl] at hk
    ·exact List.mem_append_left _ hk⟩ (hK0 _) hw (ha0 _) g1
 rw [beq_iff_eq] at h6
 rw [h6] at g
 exact wp_region_noPanic (wp_region_any hm g)
theorem pure_run {Q : Act → Prop} {l : List Oper} {i : Nat} {o : Oper} {rest : List Nat} {a : Act} (ho : l[i]? = some o) (hw : Region.wanted o (yielded l.toArray a.tmps) = true)
  (h : ∃ v, (∀ w, (execOp a.eval o).run P w = .ok (.value v) w) ∧ wpPure P l.toArray Q rest (a.put o.dst v)) : wpPure P l.toArray Q (i :: rest) a := by
 obtain ⟨v, h1, h2⟩ := h
 unfold wpPure
 have ho' : l.toArray[i]? = some o := by simpa using ho
 simp only [ho']
 exact ⟨v, .inl ⟨hw, h1⟩, h2⟩
theorem pure_nil {Q : Act → Prop} {a : Act} (h : Q a) : wpPure P ops Q [] a := h
theorem growP_nil {Q : Act → World → Prop} {K : Known} {a : Act} (h : ∀ w, C w → allK K w → Q a w) : wpGrowP P ops C R S Q [] K a := h
theorem growP_run {Q : Act → World → Prop} {l : List Oper} {i : Nat} {o : Oper} {rest : List Nat} {K : Known} {a : Act} (ho : l[i]? = some o) (hs : S i = none) (hw : Region.wanted o (yielded l.toArray a.tmps) = true)
  (h : ∃ v, (∀ w, C w → knownAt l.toArray K i w → (execOp a.eval o).run P w = .ok (.value v) w) ∧ wpGrowP P l.toArray C R S Q rest K (a.put o.dst v)) : wpGrowP P l.toArray C R S Q (i :: rest) K a := by
 show gOp _ _ _ _ _ _ _ _ _
 unfold gOp
 have ho' : l.toArray[i]? = some o := by simpa using ho
 simp only [ho', hw, if_true, hs]
 exact h
theorem growP_eff {Q : Act → World → Prop} {l : List Oper} {i : Nat} {o : Oper} {rest : List Nat} {K : Known} {a : Act} {A : Value → World → Prop} (ho : l[i]? = some o) (hs : S i = some A) (hw : Region.wanted o (yielded l.toArray a.tmps) = true)
  (h1 : ∀ w, C w → knownAt l.toArray K i w → growAt P (R i) o a A w) (h : ∀ v, Inh C ((i, A v) :: K) → wpGrowP P l.toArray C R S Q rest ((i, A v) :: K) (a.put o.dst v)) : wpGrowP P l.toArray C R S Q (i :: rest) K a := by
 show gOp _ _ _ _ _ _ _ _ _
 unfold gOp
 have ho' : l.toArray[i]? = some o := by simpa using ho
 simp only [ho', hw, if_true, hs]
 exact ⟨h1, h⟩
end
end Go.Proofs.YtggkidnlmaindaaDoor.M
namespace Go.Proofs.YtggkidnlmaindaaDoor.M
open Go.RowKit
section
variable (P : Program) (ops : Array Oper) (C : World → Prop) (R : Nat → World → World → Prop) (S : Spec) (U : Nat → World → Prop)
def FirstP : List Nat → Array Bool → Prop
 | [], _ => True
 | k :: p, listed => k ∈ Region.ready .any ops listed ∧
  (∀ ok, ops[k]? = some ok → ∀ j oj, ops[j]? = some oj → j ≠ k → listed.getD j true = false → (∀ e ∈ oj.after, Region.binds .any e = true → e.on ≠ k) → ok.apart ops oj = true) ∧ FirstP p (listed.setIfInBounds k true)
end
section
variable {P : Program} {ops : Array Oper} {C : World → Prop} {R : Nat → World → World → Prop} {S : Spec} {U : Nat → World → Prop}
theorem unl_true {listed : Array Bool} {j : Nat} (hj : j ∈ Region.ready .any ops listed) : listed.getD j true = false := by
 have h0 := (mem_ready.1 hj).1
 have h1 := ready_lt hj
 simpa [h1] using h0
theorem FirstP.apart {k j : Nat} {p : List Nat} {listed : Array Bool} (h : FirstP ops (k :: p) listed) (hj : j ∈ Region.ready .any ops listed) (hne : j ≠ k) {ok oj : Oper} (hk : ops[k]? = some ok) (ho : ops[j]? = some oj) : ok.apart ops oj = true := by
 obtain ⟨hr, hf, _⟩ := h
 obtain ⟨_, o', ho', hall⟩ := mem_ready.1 hj
 rw [ho] at ho'
 obtain rfl := Option.some.inj ho'
 refine hf ok hk j oj ho hne (unl_true hj) fun e he hb heq => ?_
 have h1 := hall e he hb
 rw [heq, not_listed_of_ready hr] at h1
 cases h1
theorem FirstP.drop {j : Nat} : ∀ (pre post : List Nat) (listed : Array Bool), FirstP ops (pre ++ j :: post) listed → j ∈ Region.ready .any ops listed → j ∉ pre → FirstP ops (pre ++ post) (listed.setIfInBounds j true)
 | [], _, _, h, _, _ => h.2.2
 | k :: pre, post, listed, h, hj, hn => by
  have hne : j ≠ k := fun e => hn (by simp [e])
  refine ⟨ready_mono h.1 (Ne.symm hne), fun ok hk j' oj ho hj' hun hno => h.2.1 ok hk j' oj ho hj' ?_ hno, ?_⟩
  ·by_cases e : j = j'
   ·subst e; exact unl_true hj
   ·rwa [getD_set_ne true e] at hun
  ·rw [Array.setIfInBounds_comm _ _ hne]
   exact FirstP.drop pre post _ h.2.2 (ready_mono hj hne) fun h => hn (List.mem_cons_of_mem _ h)
end
end Go.Proofs.YtggkidnlmaindaaDoor.M
set_option maxHeartbeats 25600000
set_option maxRecDepth 20000
namespace Go.Proofs.YtggkidnlmaindaaDoor
open Go.RowKit
theorem rtcheck_8 (s : ByteArray) (hs : Asc9 s) (S2 : BS) (u : Value) (p : List St) (key t : ByteArray) (i : Nat) (j : Int) (nn : Int) (xk : UInt8) (xn : Int) (xt : ByteArray) (xl : List V) (xo : List F) (w : World) (hD : DecAny w) (hcc : CAt w S2 u ⟨8, p, key, (i : Nat), j, nn, V.mk xk xn xt xl xo, t⟩) (hi : i ≤ s.size) :
  Calls Tryd.prog 87 #[.string s, u] w fun e w' => e = .returned (.int .i64 0) ∧ Ext w w' := by
 obtain ⟨pv, lv2, ov2, rfl, g1, g2, g3⟩ := hcc
 obtain ⟨Ap, cp, rfl, _⟩ := g1.shape
 obtain ⟨Al, cl, rfl, _⟩ := g2.shape
 obtain ⟨Ao, co, rfl, _⟩ := g3.shape
 simp only [V.l, V.o] at g1 g2 g3 ⊢
 have hb : Blk (w.alloc (.cells (cpCells ⟨8, p, key, (i : Nat), j, nn, V.mk xk xn xt xl xo, t⟩ (.slice Ap p.length cp) (.slice Al xl.length cl) (.slice Ao xo.length co)) TCMP)) w.heap.size TCMP (cpCells ⟨8, p, key, (i : Nat), j, nn, V.mk xk xn xt xl xo, t⟩ (.slice Ap p.length cp) (.slice Al xl.length cl) (.slice Ao xo.length co)) := Blk.new _ _ _
 have hE1 : Ext w (w.alloc (.cells (cpCells ⟨8, p, key, (i : Nat), j, nn, V.mk xk xn xt xl xo, t⟩ (.slice Ap p.length cp) (.slice Al xl.length cl) (.slice Ao xo.length co)) TCMP)) := (Keep.refl _ _).alloc _
 have HB := hid hb
 have HS := hid hs
 have HCT := hid hs.count
 have hz := hs.2
 have HE := hid hE1
 have HD := hid (hD.ext hE1)
 have hiX : ¬ (s.size : Int) < (i : Int) := by omega
 have hi0 : ¬ (i : Int) < 0 := by omega
 clear hb hE1 hD g1 g2 g3 hs
 go_enter Tryd.func87, Tryd.ntmps87
 go_upto_region 1 with fail
 change Code.wp _ _ _ _ (w.alloc (.cells (cpCells ⟨8, p, key, (i : Nat), j, nn, V.mk xk xn xt xl xo, t⟩ (.slice Ap p.length cp) (.slice Al xl.length cl) (.slice Ao xo.length co)) TCMP))
 generalize (w.alloc (.cells (cpCells ⟨8, p, key, (i : Nat), j, nn, V.mk xk xn xt xl xo, t⟩ (.slice Ap p.length cp) (.slice Al xl.length cl) (.slice Ao xo.length co)) TCMP)) = w0 at *
 have hb := HB.out
 have b0 := hb.cell 0
 have b1 := hb.cell 1
 have b2 := hb.cell 2
 have b3 := hb.cell 3
 have b4 := hb.cell 4
 have b5 := hb.cell 5
 have b6 := hb.cell 6
 have b7 := hb.cell 7
 have b8 := hb.cell 8
 have b9 := hb.cell 9
 have b10 := hb.cell 10
 have b11 := hb.cell 11
 simp [cpCells] at b0 b1 b2 b3 b4 b5 b6 b7 b8 b9 b10 b11
 clear hb
 go_wp2_with fail
 refine (rlen_any s (by omega) w0 HD.out).mono ?_
 rintro e w1 ⟨rfl, hT⟩
 rw [HCT.out]
 replace HE := hid (HE.out.ext hT)
 replace b0 := sqw hT b0
 replace b1 := sqw hT b1
 replace b2 := sqw hT b2
 replace b3 := sqw hT b3
 replace b4 := sqw hT b4
 replace b5 := sqw hT b5
 replace b6 := sqw hT b6
 replace b7 := sqw hT b7
 replace b8 := sqw hT b8
 replace b9 := sqw hT b9
 replace b10 := sqw hT b10
 replace b11 := sqw hT b11
 clear hT
 go_wp2
 go_ret
 exact ⟨rfl, HE.out⟩
theorem rtcheck_9 (s : ByteArray) (hs : Asc9 s) (S2 : BS) (u : Value) (p : List St) (key t : ByteArray) (i : Nat) (j : Int) (m : Nat) (xk : UInt8) (xn : Int) (xt : ByteArray) (xl : List V) (xo : List F) (w : World) (hD : DecAny w) (hcc : CAt w S2 u ⟨9, p, key, (i : Nat), j, (m : Nat), V.mk xk xn xt xl xo, t⟩) (hm : 1 ≤ m) (hi : i + m ≤ s.size) :
  Calls Tryd.prog 87 #[.string s, u] w fun e w' => e = .returned (.int .i64 0) ∧ Ext w w' := by
 obtain ⟨pv, lv2, ov2, rfl, g1, g2, g3⟩ := hcc
 obtain ⟨Ap, cp, rfl, _⟩ := g1.shape
 obtain ⟨Al, cl, rfl, _⟩ := g2.shape
 obtain ⟨Ao, co, rfl, _⟩ := g3.shape
 simp only [V.l, V.o] at g1 g2 g3 ⊢
 have hb : Blk (w.alloc (.cells (cpCells ⟨9, p, key, (i : Nat), j, (m : Nat), V.mk xk xn xt xl xo, t⟩ (.slice Ap p.length cp) (.slice Al xl.length cl) (.slice Ao xo.length co)) TCMP)) w.heap.size TCMP (cpCells ⟨9, p, key, (i : Nat), j, (m : Nat), V.mk xk xn xt xl xo, t⟩ (.slice Ap p.length cp) (.slice Al xl.length cl) (.slice Ao xo.length co)) := Blk.new _ _ _
 have hE1 : Ext w (w.alloc (.cells (cpCells ⟨9, p, key, (i : Nat), j, (m : Nat), V.mk xk xn xt xl xo, t⟩ (.slice Ap p.length cp) (.slice Al xl.length cl) (.slice Ao xo.length co)) TCMP)) := (Keep.refl _ _).alloc _
 have HB := hid hb
 have HS := hid hs
 have HCT := hid hs.count
 have hz := hs.2
 have HE := hid hE1
 have HD := hid (hD.ext hE1)
 have hiX : ¬ (s.size : Int) < (i : Int) := by omega
 have hi0 : ¬ (i : Int) < 0 := by omega
 have hm1 : ¬ (m : Int) < 1 := by omega
 have hm2 : ¬ (s.size : Int) - (i : Int) < (m : Int) := by omega
 have hmw : IntKind.i64.wrap ((s.size : Int) - (i : Int)) = (s.size : Int) - (i : Int) := by rw [IntKind.wrap_i64]; omega
 clear hb hE1 hD g1 g2 g3 hs
 go_enter Tryd.func87, Tryd.ntmps87
 go_upto_region 1 with fail
 change Code.wp _ _ _ _ (w.alloc (.cells (cpCells ⟨9, p, key, (i : Nat), j, (m : Nat), V.mk xk xn xt xl xo, t⟩ (.slice Ap p.length cp) (.slice Al xl.length cl) (.slice Ao xo.length co)) TCMP))
 generalize (w.alloc (.cells (cpCells ⟨9, p, key, (i : Nat), j, (m : Nat), V.mk xk xn xt xl xo, t⟩ (.slice Ap p.length cp) (.slice Al xl.length cl) (.slice Ao xo.length co)) TCMP)) = w0 at *
 have hb := HB.out
 have b0 := hb.cell 0
 have b1 := hb.cell 1
 have b2 := hb.cell 2
 have b3 := hb.cell 3
 have b4 := hb.cell 4
 have b5 := hb.cell 5
 have b6 := hb.cell 6
 have b7 := hb.cell 7
 have b8 := hb.cell 8
 have b9 := hb.cell 9
 have b10 := hb.cell 10
 have b11 := hb.cell 11
 simp [cpCells] at b0 b1 b2 b3 b4 b5 b6 b7 b8 b9 b10 b11
 clear hb
 go_wp2_with fail
 refine (rlen_any s (by omega) w0 HD.out).mono ?_
 rintro e w1 ⟨rfl, hT⟩
 rw [HCT.out]
 replace HE := hid (HE.out.ext hT)
 replace b0 := sqw hT b0
 replace b1 := sqw hT b1
 replace b2 := sqw hT b2
 replace b3 := sqw hT b3
 replace b4 := sqw hT b4
 replace b5 := sqw hT b5
 replace b6 := sqw hT b6
 replace b7 := sqw hT b7
 replace b8 := sqw hT b8
 replace b9 := sqw hT b9
 replace b10 := sqw hT b10
 replace b11 := sqw hT b11
 clear hT
 go_wp2
 go_ret
 exact ⟨rfl, HE.out⟩
theorem idx_row {w : World} {S : BS} {A : Option Addr} {c n : Nat} (h : Sl (EInt .i64) w S (.slice A (n + 1) c) (idxL (n + 1))) : ∃ g off, A = some ⟨g, off, none⟩ ∧ (∀ k, k < n + 1 → w.cell? ⟨g, off + k, none⟩ = some (.int .i64 (k : Int))) ∧ n + 1 ≤ c ∧ c ≤ maxLen := by
 have h0 : 0 < (idxL (n + 1)).length := by rw [idxL_len]; omega
 obtain ⟨A', c', e, hlc, hcm⟩ := h.shape
 rw [idxL_len] at e hlc
 injection e with e1 _ e2
 subst e1 e2
 obtain ⟨g, off, _, rfl, _⟩ := h.at_ (EInt.ok .i64) h0
 refine ⟨g, off, rfl, fun k hk => ?_, hlc, hcm⟩
 have hk' : k < (idxL (n + 1)).length := by rw [idxL_len]; exact hk
 obtain ⟨g2, off2, q, e, _, _, hrd, hc⟩ := h.at_ (EInt.ok .i64) hk'
 injection e with e
 injection e with e1 e2 _
 subst e1 e2
 have hv : (idxL (n + 1))[k] = (k : Int) := by
  have := idxL_get hk
  rw [List.getElem?_eq_getElem hk'] at this
  exact Option.some.inj this
 have hrd : q = [.int .i64 (idxL (n + 1))[k]] := hrd
 rw [hv] at hrd
 have := hc 0 (.int .i64 (k : Int)) (by rw [hrd]; rfl)
 simpa [EInt] using this
theorem rtdo_8 (s : ByteArray) (hs : Asc9 s) (S2 : BS) (u : Value) (p : List St) (key t : ByteArray) (i : Nat) (j : Int) (nn : Int) (xk : UInt8) (xn : Int) (xt : ByteArray) (xl : List V) (xo : List F) (w : World) (hD : DecAny w) (hcc : CAt w S2 u ⟨8, p, key, (i : Nat), j, nn, V.mk xk xn xt xl xo, t⟩) (hi : i ≤ s.size) (ht : t.size ≤ 1000) :
  Calls Tryd.prog 72 #[.string s, u] w fun e w' => e = .returned (.tuple #[.string (s.extract 0 i ++ t ++ s.extract i s.size), .int .i64 0]) ∧ Ext w w' := by
 obtain ⟨pv, lv2, ov2, rfl, g1, g2, g3⟩ := hcc
 obtain ⟨Ap, cp, rfl, _⟩ := g1.shape
 obtain ⟨Al, cl, rfl, _⟩ := g2.shape
 obtain ⟨Ao, co, rfl, _⟩ := g3.shape
 simp only [V.l, V.o] at g1 g2 g3 ⊢
 have hb : Blk (w.alloc (.cells (cpCells ⟨8, p, key, (i : Nat), j, nn, V.mk xk xn xt xl xo, t⟩ (.slice Ap p.length cp) (.slice Al xl.length cl) (.slice Ao xo.length co)) TCMP)) w.heap.size TCMP (cpCells ⟨8, p, key, (i : Nat), j, nn, V.mk xk xn xt xl xo, t⟩ (.slice Ap p.length cp) (.slice Al xl.length cl) (.slice Ao xo.length co)) := Blk.new _ _ _
 have hE1 : Ext w (w.alloc (.cells (cpCells ⟨8, p, key, (i : Nat), j, nn, V.mk xk xn xt xl xo, t⟩ (.slice Ap p.length cp) (.slice Al xl.length cl) (.slice Ao xo.length co)) TCMP)) := (Keep.refl _ _).alloc _
 have HB := hid hb
 have HS := hid hs
 have HCT := hid hs.count
 have hz := hs.2
 have HE := hid hE1
 have HD := hid (hD.ext hE1)
 have HCC := hid (show CAt (w.alloc (.cells (cpCells ⟨8, p, key, (i : Nat), j, nn, V.mk xk xn xt xl xo, t⟩ (.slice Ap p.length cp) (.slice Al xl.length cl) (.slice Ao xo.length co)) TCMP)) (fun _ => True) (.agg (cpCells ⟨8, p, key, (i : Nat), j, nn, V.mk xk xn xt xl xo, t⟩ (.slice Ap p.length cp) (.slice Al xl.length cl) (.slice Ao xo.length co))) ⟨8, p, key, (i : Nat), j, nn, V.mk xk xn xt xl xo, t⟩ from ⟨_, _, _, rfl, (g1.ext ESt.ok hE1).more ESt.ok fun _ _ _ => trivial, (g2.ext EVal.ok hE1).more EVal.ok fun _ _ _ => trivial, (g3.ext EField.ok hE1).more EField.ok fun _ _ _ => trivial⟩)
 clear hb hE1 hD g1 g2 g3 hs
 go_enter Tryd.func72, Tryd.ntmps72
 go_upto_region 1 with fail
 change Code.wp _ _ _ _ (w.alloc (.cells (cpCells ⟨8, p, key, (i : Nat), j, nn, V.mk xk xn xt xl xo, t⟩ (.slice Ap p.length cp) (.slice Al xl.length cl) (.slice Ao xo.length co)) TCMP))
 generalize (w.alloc (.cells (cpCells ⟨8, p, key, (i : Nat), j, nn, V.mk xk xn xt xl xo, t⟩ (.slice Ap p.length cp) (.slice Al xl.length cl) (.slice Ao xo.length co)) TCMP)) = w0 at *
 have hb := HB.out
 have b0 := hb.cell 0
 have b1 := hb.cell 1
 have b2 := hb.cell 2
 have b3 := hb.cell 3
 have b4 := hb.cell 4
 have b5 := hb.cell 5
 have b6 := hb.cell 6
 have b7 := hb.cell 7
 have b8 := hb.cell 8
 have b9 := hb.cell 9
 have b10 := hb.cell 10
 have b11 := hb.cell 11
 simp [cpCells] at b0 b1 b2 b3 b4 b5 b6 b7 b8 b9 b10 b11
 clear hb
 go_wp2_with fail
 refine (rtcheck_8 s HS.out _ _ p key t i j nn xk xn xt xl xo w0 HD.out HCC.out hi).mono ?_
 rintro e w1 ⟨rfl, hT⟩
 replace HE := hid (HE.out.ext hT)
 replace HD := hid (HD.out.ext hT)
 replace b0 := sqw hT b0
 replace b1 := sqw hT b1
 replace b2 := sqw hT b2
 replace b3 := sqw hT b3
 replace b4 := sqw hT b4
 replace b5 := sqw hT b5
 replace b6 := sqw hT b6
 replace b7 := sqw hT b7
 replace b8 := sqw hT b8
 replace b9 := sqw hT b9
 replace b10 := sqw hT b10
 replace b11 := sqw hT b11
 clear hT HCC
 go_wp2_with fail
 refine (cuts_asc s HS.out w1 HD.out).mono ?_
 rintro e w2 ⟨A, c, rfl, hrow, hT⟩
 replace HE := hid (HE.out.ext hT)
 replace b0 := sqw hT b0
 replace b1 := sqw hT b1
 replace b2 := sqw hT b2
 replace b3 := sqw hT b3
 replace b4 := sqw hT b4
 replace b5 := sqw hT b5
 replace b6 := sqw hT b6
 replace b7 := sqw hT b7
 replace b8 := sqw hT b8
 replace b9 := sqw hT b9
 replace b10 := sqw hT b10
 replace b11 := sqw hT b11
 obtain ⟨g, off, rfl, hcell, hc1, hc2⟩ := idx_row hrow
 have y1 := hcell i (by omega)
 have hi9 : (i : Int) < (s.size : Int) + 1 := by omega
 have hi8 : (i : Int) ≤ (s.size : Int) := by omega
 have hcat1 : ¬ 9223372036854775807 < (s.extract 0 i).size + t.size := by simp only [ByteArray.size_extract]; omega
 have hcat2 : ¬ 9223372036854775807 < (s.extract 0 i ++ t).size + (s.extract i s.size).size := by simp only [ByteArray.size_append, ByteArray.size_extract]; omega
 clear hT hcell hrow
 go_upto_region 6 with fail
 go_quiet (fail)
 go_wp2
 go_ret2
 exact ⟨rfl, HE.out.drewN nq⟩
theorem rtdo_9 (s : ByteArray) (hs : Asc9 s) (S2 : BS) (u : Value) (p : List St) (key t : ByteArray) (i : Nat) (j : Int) (m : Nat) (xk : UInt8) (xn : Int) (xt : ByteArray) (xl : List V) (xo : List F) (w : World) (hD : DecAny w) (hcc : CAt w S2 u ⟨9, p, key, (i : Nat), j, (m : Nat), V.mk xk xn xt xl xo, t⟩) (hm : 1 ≤ m) (hi : i + m ≤ s.size) :
  Calls Tryd.prog 72 #[.string s, u] w fun e w' => e = .returned (.tuple #[.string (s.extract 0 i ++ s.extract (i + m) s.size), .int .i64 0]) ∧ Ext w w' := by
 obtain ⟨pv, lv2, ov2, rfl, g1, g2, g3⟩ := hcc
 obtain ⟨Ap, cp, rfl, _⟩ := g1.shape
 obtain ⟨Al, cl, rfl, _⟩ := g2.shape
 obtain ⟨Ao, co, rfl, _⟩ := g3.shape
 simp only [V.l, V.o] at g1 g2 g3 ⊢
 have hb : Blk (w.alloc (.cells (cpCells ⟨9, p, key, (i : Nat), j, (m : Nat), V.mk xk xn xt xl xo, t⟩ (.slice Ap p.length cp) (.slice Al xl.length cl) (.slice Ao xo.length co)) TCMP)) w.heap.size TCMP (cpCells ⟨9, p, key, (i : Nat), j, (m : Nat), V.mk xk xn xt xl xo, t⟩ (.slice Ap p.length cp) (.slice Al xl.length cl) (.slice Ao xo.length co)) := Blk.new _ _ _
 have hE1 : Ext w (w.alloc (.cells (cpCells ⟨9, p, key, (i : Nat), j, (m : Nat), V.mk xk xn xt xl xo, t⟩ (.slice Ap p.length cp) (.slice Al xl.length cl) (.slice Ao xo.length co)) TCMP)) := (Keep.refl _ _).alloc _
 have HB := hid hb
 have HS := hid hs
 have HCT := hid hs.count
 have hz := hs.2
 have HE := hid hE1
 have HD := hid (hD.ext hE1)
 have HCC := hid (show CAt (w.alloc (.cells (cpCells ⟨9, p, key, (i : Nat), j, (m : Nat), V.mk xk xn xt xl xo, t⟩ (.slice Ap p.length cp) (.slice Al xl.length cl) (.slice Ao xo.length co)) TCMP)) (fun _ => True) (.agg (cpCells ⟨9, p, key, (i : Nat), j, (m : Nat), V.mk xk xn xt xl xo, t⟩ (.slice Ap p.length cp) (.slice Al xl.length cl) (.slice Ao xo.length co))) ⟨9, p, key, (i : Nat), j, (m : Nat), V.mk xk xn xt xl xo, t⟩ from ⟨_, _, _, rfl, (g1.ext ESt.ok hE1).more ESt.ok fun _ _ _ => trivial, (g2.ext EVal.ok hE1).more EVal.ok fun _ _ _ => trivial, (g3.ext EField.ok hE1).more EField.ok fun _ _ _ => trivial⟩)
 clear hb hE1 hD g1 g2 g3 hs
 go_enter Tryd.func72, Tryd.ntmps72
 go_upto_region 1 with fail
 change Code.wp _ _ _ _ (w.alloc (.cells (cpCells ⟨9, p, key, (i : Nat), j, (m : Nat), V.mk xk xn xt xl xo, t⟩ (.slice Ap p.length cp) (.slice Al xl.length cl) (.slice Ao xo.length co)) TCMP))
 generalize (w.alloc (.cells (cpCells ⟨9, p, key, (i : Nat), j, (m : Nat), V.mk xk xn xt xl xo, t⟩ (.slice Ap p.length cp) (.slice Al xl.length cl) (.slice Ao xo.length co)) TCMP)) = w0 at *
 have hb := HB.out
 have b0 := hb.cell 0
 have b1 := hb.cell 1
 have b2 := hb.cell 2
 have b3 := hb.cell 3
 have b4 := hb.cell 4
 have b5 := hb.cell 5
 have b6 := hb.cell 6
 have b7 := hb.cell 7
 have b8 := hb.cell 8
 have b9 := hb.cell 9
 have b10 := hb.cell 10
 have b11 := hb.cell 11
 simp [cpCells] at b0 b1 b2 b3 b4 b5 b6 b7 b8 b9 b10 b11
 clear hb
 go_wp2_with fail
 refine (rtcheck_9 s HS.out _ _ p key t i j m xk xn xt xl xo w0 HD.out HCC.out hm hi).mono ?_
 rintro e w1 ⟨rfl, hT⟩
 replace HE := hid (HE.out.ext hT)
 replace HD := hid (HD.out.ext hT)
 replace b0 := sqw hT b0
 replace b1 := sqw hT b1
 replace b2 := sqw hT b2
 replace b3 := sqw hT b3
 replace b4 := sqw hT b4
 replace b5 := sqw hT b5
 replace b6 := sqw hT b6
 replace b7 := sqw hT b7
 replace b8 := sqw hT b8
 replace b9 := sqw hT b9
 replace b10 := sqw hT b10
 replace b11 := sqw hT b11
 clear hT HCC
 go_wp2_with fail
 refine (cuts_asc s HS.out w1 HD.out).mono ?_
 rintro e w2 ⟨A, c, rfl, hrow, hT⟩
 replace HE := hid (HE.out.ext hT)
 replace b0 := sqw hT b0
 replace b1 := sqw hT b1
 replace b2 := sqw hT b2
 replace b3 := sqw hT b3
 replace b4 := sqw hT b4
 replace b5 := sqw hT b5
 replace b6 := sqw hT b6
 replace b7 := sqw hT b7
 replace b8 := sqw hT b8
 replace b9 := sqw hT b9
 replace b10 := sqw hT b10
 replace b11 := sqw hT b11
 obtain ⟨g, off, rfl, hcell, hc1, hc2⟩ := idx_row hrow
 have y1 := hcell i (by omega)
 have y2 := hcell (i + m) (by omega)
 have hsm : IntKind.i64.wrap ((i : Int) + (m : Int)) = ((i + m : Nat) : Int) := by rw [IntKind.wrap_i64]; omega
 have hs2 : ((i + m : Nat) : Int) ≤ s.size := by omega
 have hs3 : ((i + m : Nat) : Int) < (s.size : Int) + 1 := by omega
 have hi9 : (i : Int) < (s.size : Int) + 1 := by omega
 have hi8 : (i : Int) ≤ (s.size : Int) := by omega
 have hcat : ¬ 9223372036854775807 < (s.extract 0 i).size + (s.extract (i + m) s.size).size := by simp only [ByteArray.size_extract]; omega
 clear hT hcell hrow
 go_upto_region 7 with fail
 go_quiet (fail)
 go_wp2
 go_ret2
 exact ⟨rfl, HE.out.drewN nq⟩
def checkL (n : Nat) (k : UInt8) (i j : Int) : Int :=
 if knownL k = false then 31
 else if i < 0 ∨ i > (if k = 4 then (n : Int) else (n : Int) - 1) then 32
 else if k = 7 ∧ (j < 0 ∨ j ≥ (n : Int)) then 32
 else 0
end Go.Proofs.YtggkidnlmaindaaDoor
