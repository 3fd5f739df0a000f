/- GrowU: laid together. -/
import Derived.Test.YtihaliffcobacaaGreatDoorSbB18
set_option linter.unusedSimpArgs false
set_option linter.unusedVariables false
namespace Go.Proofs.YtihaliffcobacaaGreatDoor.M
open Go.RowKit
section
variable (P : Program) (ops : Array Oper) (C : World → Prop) (R : Nat → World → World → Prop) (S : Spec) (U : Nat → World → Prop)
def uOp (i : Nat) (next : Known → Act → Prop) (K : Known) (a : Act) : Prop :=
 match ops[i]? with
 | none => False
 | some o => if Region.wanted o (yielded ops a.tmps) then
   match S i with
   | none => ∃ v, (∀ w, C w → U i w → knownAt ops K i w → (execOp a.eval o).run P w = .ok (.value v) w) ∧ next K (a.put o.dst v)
   | some A => (∀ w, C w → U i w → knownAt ops K i w → growAt P (R i) o a A w) ∧ ∀ v, (∃ w, C w ∧ A v w) → next ((i, A v) :: K) (a.put o.dst v)
  else next K (a.put o.dst undef)
def wpU (Q : Act → World → Prop) : List Nat → Known → Act → Prop
 | [], K, a => ∀ w, C w → allK K w → Q a w
 | i :: rest, K, a => uOp P ops C R S U i (wpU Q rest) K a
def FirstP : List Nat → Array Bool → Prop
 | [], _ => True
 | k :: p, listed => k ∈ Region.ready .any ops listed ∧
  (∀ ok, ops[k]? = some ok → ∀ j oj, ops[j]? = some oj → j ≠ k → listed.getD j true = false → (∀ e ∈ oj.after, Region.binds .any e = true → e.on ≠ k) → ok.apart ops oj = true) ∧ FirstP p (listed.setIfInBounds k true)
end
section
variable {P : Program} {ops : Array Oper} {C : World → Prop} {R : Nat → World → World → Prop} {S : Spec} {U : Nat → World → Prop}
def StableU (R : Nat → World → World → Prop) (U : Nat → World → Prop) : Prop := ∀ i j, j ≠ i → ∀ w w', U i w → R j w w' → U i w'
theorem FirstP.of_firstB : ∀ (p : List Nat) (listed : Array Bool), firstB ops p listed = true → FirstP ops p listed
 | [], _, _ => trivial
 | k :: p, listed, h => by
  simp only [firstB, Bool.and_eq_true] at h
  exact ⟨by simpa using h.1.1, fun ok h0 => Region.free_spec h0 h.1.2, FirstP.of_firstB p _ h.2⟩
theorem unl_true {listed : Array Bool} {j : Nat} (hj : j ∈ Region.ready .any ops listed) : listed.getD j true = false := by
 have h0 := (mem_ready.1 hj).1
 have h1 := ready_lt hj
 simpa [h1] using h0
theorem FirstP.apart {k j : Nat} {p : List Nat} {listed : Array Bool} (h : FirstP ops (k :: p) listed) (hj : j ∈ Region.ready .any ops listed) (hne : j ≠ k) {ok oj : Oper} (hk : ops[k]? = some ok) (ho : ops[j]? = some oj) : ok.apart ops oj = true := by
 obtain ⟨hr, hf, _⟩ := h
 obtain ⟨_, o', ho', hall⟩ := mem_ready.1 hj
 rw [ho] at ho'
 obtain rfl := Option.some.inj ho'
 refine hf ok hk j oj ho hne (unl_true hj) fun e he hb heq => ?_
 have h1 := hall e he hb
 rw [heq, not_listed_of_ready hr] at h1
 cases h1
theorem FirstP.drop {j : Nat} : ∀ (pre post : List Nat) (listed : Array Bool), FirstP ops (pre ++ j :: post) listed → j ∈ Region.ready .any ops listed → j ∉ pre → FirstP ops (pre ++ post) (listed.setIfInBounds j true)
 | [], _, _, h, _, _ => h.2.2
 | k :: pre, post, listed, h, hj, hn => by
  have hne : j ≠ k := fun e => hn (by simp [e])
  refine ⟨ready_mono h.1 (Ne.symm hne), fun ok hk j' oj ho hj' hun hno => h.2.1 ok hk j' oj ho hj' ?_ hno, ?_⟩
  ·by_cases e : j = j'
   ·subst e; exact unl_true hj
   ·rwa [getD_set_ne true e] at hun
  ·rw [Array.setIfInBounds_comm _ _ hne]
   exact FirstP.drop pre post _ h.2.2 (ready_mono hj hne) fun h => hn (List.mem_cons_of_mem _ h)
theorem FirstP.nodup : ∀ (p : List Nat) (listed : Array Bool), FirstP ops p listed → ∀ i ∈ p, listed.getD i false = false
 | [], _, _, _, hi => by cases hi
 | k :: p, listed, h, i, hi => by
  rcases List.mem_cons.1 hi with rfl | hi
  ·exact not_listed_of_ready h.1
  ·have := FirstP.nodup p _ h.2.2 i hi
   cases hl : listed.getD i false
   ·rfl
   ·rw [getD_set_true hl] at this; cases this
theorem uOp_same {i : Nat} {next next' : Known → Act → Prop} {K K' : Known} {a : Act} (hk : SameK K K') (h : ∀ K K' a, SameK K K' → next K a → next' K' a) (hh : uOp P ops C R S U i next K a) : uOp P ops C R S U i next' K' a := by
 unfold uOp at *
 split
 ·rename_i ho; simp only [ho] at hh
 ·rename_i o ho
  simp only [ho] at hh
  split
  ·rename_i hw
   simp only [hw, if_true] at hh
   split
   ·rename_i hs; simp only [hs] at hh; obtain ⟨v, hu, h2⟩ := hh; exact ⟨v, fun w hc h1 hka => hu w hc h1 (hk.knownAt.2 hka), h _ _ _ hk h2⟩
   ·rename_i A hs; simp only [hs] at hh; exact ⟨fun w hc hu hka => hh.1 w hc hu (hk.knownAt.2 hka), fun v hv => h _ _ _ (hk.cons _) (hh.2 v hv)⟩
  ·rename_i hw; simp only [hw] at hh; exact h _ _ _ hk hh
theorem wpU_same {Q : Act → World → Prop} : ∀ (p : List Nat) (K K' : Known) (a : Act), SameK K K' → wpU P ops C R S U Q p K a → wpU P ops C R S U Q p K' a
 | [], _, _, _, hk, h => fun w hc ha => h w hc (hk.allK.2 ha)
 | _ :: p, _, _, _, hk, h => uOp_same hk (fun K K' a hk' hn => wpU_same p K K' a hk' hn) h
def Must (P : Program) (ops : Array Oper) (R : Nat → World → World → Prop) (S : Spec) (j : Nat) (a : Act) (w : World) : Prop := ∀ o, ops[j]? = some o → Region.wanted o (yielded ops a.tmps) = true →
 match S j with
 | none => ∃ v, (execOp a.eval o).run P w = .ok (.value v) w
 | some A => growAt P (R j) o a A w
theorem must_of_wpU {Q : Act → World → Prop} (hC : StableC R C) (hS : StableS R S) (hU : StableU R U) (hsel : ∀ (j : Nat) (o : Oper) cs b, ops[j]? = some o → o.op ≠ .select cs b) {j : Nat} {w : World} (hc : C w) (huj : U j w) :
  ∀ (pre post : List Nat) (listed : Array Bool) (K : Known) (a : Act) (w1 : World), Shut ops listed → FirstP ops (pre ++ j :: post) listed → GoodK R listed K → j ∈ Region.ready .any ops listed → j ∉ pre → knownAt ops K j w →
   C w1 → allK K w1 → (∀ i ∈ pre, U i w1) → wpU P ops C R S U Q (pre ++ j :: post) K a → Must P ops R S j a w
 | [], post, listed, K, a, w1, _, _, _, _, _, hk, _, _, _, h => by
  intro o ho hw
  simp only [List.nil_append, wpU] at h
  unfold uOp at h
  simp only [ho, hw, if_true] at h
  split
  ·rename_i hs; simp only [hs] at h; obtain ⟨v, h1, _⟩ := h; exact ⟨v, h1 w hc huj hk⟩
  ·rename_i A hs; simp only [hs] at h; exact h.1 w hc huj hk
 | k :: pre, post, listed, K, a, w1, hsh, hf, hK, hj, hn, hk, hc1, hk1, hu1, h => by
  intro o ho hw
  have hne : j ≠ k := fun e => hn (by simp [e])
  obtain ⟨_, ok, hok, _⟩ := mem_ready.1 hf.1
  have hap := hf.apart hj hne hok ho
  obtain ⟨h1, h2, h3⟩ := Oper.apart_spec hap
  have hwj : ∀ v, Region.wanted o (yielded ops (a.put ok.dst v).tmps) = Region.wanted o (yielded ops a.tmps) := fun v => wanted_put o a ok.dst v h1
  have hxj : ∀ v, execOp (a.put ok.dst v).eval o = execOp a.eval o := fun v => execOp_put o (fun cs b => hsel j o cs b ho) a ok.dst v h1
  have back : ∀ v, Must P ops R S j (a.put ok.dst v) w → match S j with
    | none => ∃ v, (execOp a.eval o).run P w = .ok (.value v) w
    | some A => growAt P (R j) o a A w := fun v hm => by
   have := hm o ho (by rw [hwj]; exact hw)
   unfold growAt at *
   simpa only [hxj] using this
  simp only [List.cons_append, wpU] at h
  unfold uOp at h
  simp only [hok] at h
  have hnk : j ∉ pre := fun h => hn (List.mem_cons_of_mem _ h)
  have hj' : j ∈ Region.ready .any ops (listed.setIfInBounds k true) := ready_mono hj hne
  by_cases hwk : Region.wanted ok (yielded ops a.tmps) = true
  ·simp only [hwk, if_true] at h
   cases hs : S k with
   | none =>
    simp only [hs] at h
    obtain ⟨v, _, hn'⟩ := h
    exact back v (must_of_wpU hC hS hU hsel hc huj pre post _ K _ w1 (hsh.set hf.1) hf.2.2 (hK.set k) hj' hnk hk hc1 hk1 (fun i hi => hu1 i (List.mem_cons_of_mem _ hi)) hn')
   | some A =>
    simp only [hs] at h
    obtain ⟨v, w2, hc2, hr2, ha2⟩ := growAt_val hC hc1 (h.1 w1 hc1 (hu1 k List.mem_cons_self) hk1.knownAt)
    have hk2 : allK ((k, A v) :: K) w2 := fun x hx => by
     rcases List.mem_cons.1 hx with rfl | hx
     ·exact ha2
     ·exact hK.all (hK.fresh hf.1) hk1 hr2 x hx
    have hkn : ∀ i ∈ pre, i ≠ k := fun i hi e => by
     have := FirstP.nodup _ _ hf.2.2 i (List.mem_append_left _ hi)
     subst e
     have hl := ready_lt hf.1
     simp [hl] at this
    exact back v (must_of_wpU hC hS hU hsel hc huj pre post _ _ _ w2 (hsh.set hf.1) hf.2.2 (hK.cons hS hf.1 hs v) hj' hnk ((knownAt_cons hsh hf.1 hj).2 hk) hc2 hk2
     (fun i hi => hU i k (Ne.symm (hkn i hi)) w1 w2 (hu1 i (List.mem_cons_of_mem _ hi)) hr2) (h.2 v ⟨w2, hc2, ha2⟩))
  ·simp only [hwk] at h
   exact back undef (must_of_wpU hC hS hU hsel hc huj pre post _ K _ w1 (hsh.set hf.1) hf.2.2 (hK.set k) hj' hnk hk hc1 hk1 (fun i hi => hu1 i (List.mem_cons_of_mem _ hi)) h)
def Did (P : Program) (ops : Array Oper) (C : World → Prop) (S : Spec) (j : Nat) (a : Act) (w : World) (v : Value) (F : List (Nat × (World → Prop))) : Prop := ∀ o, ops[j]? = some o →
 if Region.wanted o (yielded ops a.tmps) then
  match S j with
  | none => (execOp a.eval o).run P w = .ok (.value v) w ∧ F = []
  | some A => (∃ w', C w' ∧ A v w') ∧ F = [(j, A v)]
 else v = undef ∧ F = []
theorem wpU_did {Q : Act → World → Prop} (hsel : ∀ (j : Nat) (o : Oper) cs b, ops[j]? = some o → o.op ≠ .select cs b) {j : Nat} {oj : Oper} {w : World} (hc : C w) (huj : U j w) (hoj : ops[j]? = some oj) {v : Value} {F : Known} :
  ∀ (pre post : List Nat) (listed : Array Bool) (K : Known) (a : Act), Shut ops listed → FirstP ops (pre ++ j :: post) listed → j ∈ Region.ready .any ops listed → j ∉ pre → knownAt ops K j w → Did P ops C S j a w v F →
   wpU P ops C R S U Q (pre ++ j :: post) K a → wpU P ops C R S U Q (pre ++ post) (F ++ K) (a.put oj.dst v)
 | [], post, listed, K, a, _, _, _, _, hk, hd, h => by
  have hd := hd oj hoj
  simp only [List.nil_append, wpU] at h ⊢
  unfold uOp at h
  simp only [hoj] at h
  by_cases hw : Region.wanted oj (yielded ops a.tmps) = true
  ·simp only [hw, if_true] at h hd
   cases hs : S j with
   | none =>
    simp only [hs] at h hd
    obtain ⟨v', h1, h2⟩ := h
    have e := h1 w hc huj hk
    rw [hd.1] at e
    injection e with e _
    injection e with e
    subst e
    rw [hd.2]; exact h2
   | some A =>
    simp only [hs] at h hd
    rw [hd.2]; exact h.2 v hd.1
  ·have hwf : Region.wanted oj (yielded ops a.tmps) = false := by simpa using hw
   simp [hwf] at h hd
   rw [hd.1, hd.2]; exact h
 | k :: pre, post, listed, K, a, hsh, hf, hj, hn, hk, hd, h => by
  have hne : j ≠ k := fun e => hn (by simp [e])
  obtain ⟨_, ok, hok, _⟩ := mem_ready.1 hf.1
  have hap := hf.apart hj hne hok hoj
  obtain ⟨h1, h2, h3⟩ := Oper.apart_spec hap
  have hwj : ∀ v, Region.wanted oj (yielded ops (a.put ok.dst v).tmps) = Region.wanted oj (yielded ops a.tmps) := fun v => wanted_put oj a ok.dst v h1
  have hxj : ∀ v, execOp (a.put ok.dst v).eval oj = execOp a.eval oj := fun v => execOp_put oj (fun cs b => hsel j oj cs b hoj) a ok.dst v h1
  have hwk : Region.wanted ok (yielded ops (a.put oj.dst v).tmps) = Region.wanted ok (yielded ops a.tmps) := wanted_put ok a oj.dst v h3
  have hxk : execOp (a.put oj.dst v).eval ok = execOp a.eval ok := execOp_put ok (fun cs b => hsel k ok cs b hok) a oj.dst v h3
  have hnk : j ∉ pre := fun h => hn (List.mem_cons_of_mem _ h)
  have hj' : j ∈ Region.ready .any ops (listed.setIfInBounds k true) := ready_mono hj hne
  have hd' : ∀ u, Did P ops C S j (a.put ok.dst u) w v F := fun u o ho => by
   rw [hoj] at ho
   obtain rfl := Option.some.inj ho
   simpa only [hwj, hxj] using hd oj hoj
  have hF : ∀ w', knownAt ops (F ++ K) k w' → knownAt ops K k w' := fun w' h x hx => h x (List.mem_append_right _ hx)
  have hcomm : ∀ u, (a.put ok.dst u).put oj.dst v = (a.put oj.dst v).put ok.dst u := fun u => (Act.put_comm a u v h2)
  simp only [List.cons_append, wpU] at h ⊢
  unfold uOp at h ⊢
  simp only [hok, hwk, hxk] at h ⊢
  by_cases hw : Region.wanted ok (yielded ops a.tmps) = true
  ·simp only [hw, if_true] at h ⊢
   cases hs : S k with
   | none =>
    simp only [hs] at h ⊢
    obtain ⟨u, hu, hn'⟩ := h
    refine ⟨u, fun w' hc' hu' hk' => hu w' hc' hu' (hF _ hk'), ?_⟩
    rw [← hcomm]
    exact wpU_did hsel hc huj hoj pre post _ K _ (hsh.set hf.1) hf.2.2 hj' hnk hk (hd' u) hn'
   | some A =>
    simp only [hs] at h ⊢
    refine ⟨fun w' hc' hu' hk' => ?_, fun u hu => ?_⟩
    ·have := h.1 w' hc' hu' (hF _ hk')
     unfold growAt at *
     rwa [hxk]
    rw [← hcomm]
    refine wpU_same _ (F ++ ((k, A u) :: K)) _ _ (fun x => by simp only [List.mem_append, List.mem_cons]; constructor <;> (intro h; rcases h with h | h | h <;> simp [h])) ?_
    exact wpU_did hsel hc huj hoj pre post _ _ _ (hsh.set hf.1) hf.2.2 hj' hnk ((knownAt_cons hsh hf.1 hj).2 hk) (hd' u) (h.2 u hu)
  ·simp only [hw] at h ⊢
   rw [← hcomm]
   exact wpU_did hsel hc huj hoj pre post _ K _ (hsh.set hf.1) hf.2.2 hj' hnk hk (hd' undef) h
theorem mem_split_first {j : Nat} : ∀ {p : List Nat}, j ∈ p → ∃ pre post, p = pre ++ j :: post ∧ j ∉ pre
 | k :: p, h => by
  by_cases e : j = k
  ·exact ⟨[], p, by simp [e], by simp⟩
  ·obtain ⟨pre, post, h1, h2⟩ := mem_split_first (p := p) (by simpa [e] using h)
   exact ⟨k :: pre, post, by simp [h1], by simp [e, h2]⟩
theorem wpAny_of_wpU {p0 p1 p2 : List Nat} {Q' : Exit → Act → World → Prop} (hsel : ∀ (j : Nat) (o : Oper) cs b, ops[j]? = some o → o.op ≠ .select cs b) (hS : StableS R S) (hC : StableC R C) (hU : StableU R U) (hF : forcedB ops p2 (listOf ops.size (p0 ++ p1)) = true)
  (hcov : ∀ k, k < ops.size → k ∈ p0 ++ p1 ∨ k ∈ p2) (hdep : ∀ j ∈ p2, ∀ i ∈ p1, depB ops ops.size j i = true) : ∀ (n : Nat) (p : List Nat) (listed : Array Bool) (K : Known) (a : Act) (w : World), p.length = n →
  (∀ i ∈ p, i ∈ p1) → (∀ i ∈ p0 ++ p1, listed.getD i false = true ∨ i ∈ p) → Shut ops listed → Part ops (p0 ++ p1) listed → GoodK R listed K → FirstP ops p listed → C w → allK K w → (∀ i ∈ p, U i w) →
  wpU P ops C R S U (wpOps P ops Q' p2) p K a → wpAny P .any ops Q' (p2.length + n) listed a w
 | 0, p, listed, K, a, w, hl, _, hall, _, hp, _, _, hc, hk, _, h => by
  obtain rfl : p = [] := List.length_eq_zero_iff.1 hl
  rw [listed_eq hp (List.all_eq_true.2 fun i hi => by simpa using hall i hi)]
  exact wpAny_forced _ _ _ _ hF (h _ hc hk)
 | n + 1, p, listed, K, a, w, hl, hsub, hall, hsh, hp, hK, hf, hc, hk, hu, h => by
  obtain ⟨i0, rest, rfl⟩ : ∃ i0 rest, p = i0 :: rest := by
   cases p with
   | nil => cases hl
   | cons i0 rest => exact ⟨i0, rest, rfl⟩
  have hr0 := hf.1
  refine ⟨fun h0 => (by rw [h0] at hr0; cases hr0), fun j hj => ?_⟩
  obtain ⟨_, oj, hoj, _⟩ := mem_ready.1 hj
  have hjp : j ∈ i0 :: rest := by
   rcases hcov j (Array.getElem?_eq_some_iff.1 hoj).1 with h | h
   ·rcases hall j h with h1 | h1
    ·rw [not_listed_of_ready hj] at h1; cases h1
    ·exact h1
   ·have := depB_ready hsh hj (hdep j h i0 (hsub i0 List.mem_cons_self))
    rw [not_listed_of_ready hr0] at this
    cases this
  obtain ⟨pre, post, e, hn⟩ := mem_split_first hjp
  have huj := hu j hjp
  have hjl := ready_lt hj
  rw [e] at h hf hu hsub hall hl
  have hm := must_of_wpU hC hS hU hsel hc huj pre post listed K a w hsh hf hK hj hn hk.knownAt hc hk (fun i hi => hu i (List.mem_append_left _ hi)) h
  have hf' := FirstP.drop pre post listed hf hj hn
  have hne : ∀ i ∈ pre ++ post, i ≠ j := fun i hi ei => by
   have := FirstP.nodup _ _ hf' i hi
   subst ei
   simp [hjl] at this
  have go : ∀ v F w', Did P ops C S j a w v F → GoodK R (listed.setIfInBounds j true) (F ++ K) → C w' → allK (F ++ K) w' → (∀ i ∈ pre ++ post, U i w') → wpAny P .any ops Q' (p2.length + n) (listed.setIfInBounds j true) (a.put oj.dst v) w' := fun v F w' hd hK' hc' hk' hu' => by
   refine wpAny_of_wpU hsel hS hC hU hF hcov hdep n (pre ++ post) _ (F ++ K) _ w' (by simp at hl ⊢; omega) (fun i hi => hsub i (by simp at hi ⊢; rcases hi with h | h <;> simp [h])) (fun i hi => ?_) (hsh.set hj)
    ⟨by simpa using hp.1, fun k hkk => ?_⟩ hK' hf' hc' hk' hu' (wpU_did hsel hc huj hoj pre post listed K a hsh hf hj hn hk.knownAt hd h)
   ·rcases hall i hi with h | h
    ·exact .inl (getD_set_true h)
    ·simp at h
     rcases h with h | h | h
     ·exact .inr (by simp [h])
     ·subst h; exact .inl (by simp [hjl])
     ·exact .inr (by simp [h])
   ·rcases getD_set_cases hkk with rfl | hkk
    ·exact List.mem_append_right _ (hsub _ (by simp))
    ·exact hp.2 k hkk
  have hkeep : ∀ w', R j w w' → (∀ i ∈ pre ++ post, U i w') := fun w' hr i hi => hU i j (Ne.symm (hne i hi)) w w' (hu i (by simp at hi ⊢; rcases hi with h | h <;> simp [h])) hr
  unfold wpOp
  simp only [hoj]
  split
  ·rename_i hw
   have hm := hm oj hoj hw
   refine .inl ?_
   unfold Oper.wp
   cases hs : S j with
   | none =>
    simp only [hs] at hm
    obtain ⟨v, hv⟩ := hm
    rw [hv]
    refine go v [] w (fun o ho => ?_) (hK.set j) hc hk (fun i hi => hu i (by simp at hi ⊢; rcases hi with h | h <;> simp [h]))
    rw [hoj] at ho
    obtain rfl := Option.some.inj ho
    simp only [hw, if_true, hs]
    exact ⟨hv, trivial⟩
   | some A =>
    simp only [hs] at hm
    have fin : ∀ v w', R j w w' → A v w' → wpAny P .any ops Q' (p2.length + n) (listed.setIfInBounds j true) (a.put oj.dst v) w' := fun v w' hr ha => by
     have hc' := hC j w w' hc hr
     refine go v [(j, A v)] w' (fun o ho => ?_) (hK.cons hS hj hs v) hc' (fun x hx => ?_) (hkeep w' hr)
     ·rw [hoj] at ho
      obtain rfl := Option.some.inj ho
      simp only [hw, if_true, hs]
      exact ⟨⟨w', hc', ha⟩, trivial⟩
     ·rcases List.mem_cons.1 hx with rfl | hx
      ·exact ha
      ·exact hK.all (hK.fresh hj) hk hr x hx
    unfold growAt at hm
    generalize (execOp a.eval oj).run P w = r at *
    cases r with
    | ok x w' =>
     cases x <;> simp only [growUpon] at hm <;> simp only [Oper.upon]
     case value v => exact fin v w' hm.1 hm.2
     case enter f args =>
      refine hm.mono fun e w'' ⟨v, hv, hr, ha⟩ => ?_
      subst hv
      exact fin v w'' hr ha
    | halt x w' => simp only [growUpon] at hm
  ·rename_i hw
   have hwf : Region.wanted oj (yielded ops a.tmps) = false := by simpa using hw
   refine go undef [] w (fun o ho => ?_) (hK.set j) hc hk (fun i hi => hu i (by simp at hi ⊢; rcases hi with h | h <;> simp [h]))
   rw [hoj] at ho
   obtain rfl := Option.some.inj ho
   simp [hwf]
theorem wp_region_once (p0 p1 p2 : List Nat) (S : Spec) (C : World → Prop) (R : Nat → World → World → Prop) (U : Nat → World → Prop) {id : Nat} {Q : Exit → Act → World → Prop} {a : Act} {w : World} {l : List Oper} (hS : StableS R S) (hC : StableC R C) (hU : StableU R U) (hm : P.follows .mixedOrders = true)
  (hB : partB l p0 p1 p2 = true) (hw : C w.drew) (hw0 : ∀ i ∈ p1, U i w.drew)
  (h : wpPure P l.toArray (wpU P l.toArray C R S U (wpList P l.toArray (NoPanic Q) (operOf l p2)) p1 []) p0 a) : (Code.region id l.toArray true).wp P Q a w := by
 simp only [partB, Bool.and_eq_true] at hB
 obtain ⟨⟨⟨⟨⟨⟨⟨h1, h20⟩, h2⟩, h3⟩, h4⟩, h5⟩, h6⟩, h7⟩ := hB
 have hsh : Shut l.toArray (Array.replicate l.toArray.size false) := by
  intro j o _ hj
  by_cases hl : j < l.length <;> simp [Array.getD, hl] at hj
 have hsh0 : Shut l.toArray (listOf l.toArray.size p0) := Shut.fold p0 _ hsh h20
 have hcov : ∀ k, k < l.toArray.size → k ∈ p0 ++ p1 ∨ k ∈ p2 := fun k hk => by
  have := List.all_eq_true.1 h4 k (List.mem_range.2 hk)
  simp only [Bool.or_eq_true, List.contains_iff_mem] at this
  rcases this with (h | h) | h
  ·exact .inl (List.mem_append_left _ h)
  ·exact .inl (List.mem_append_right _ h)
  ·exact .inr h
 have hdep : ∀ j ∈ p2, ∀ i ∈ p1, depB l.toArray l.toArray.size j i = true := fun j hj i hi => List.all_eq_true.1 (List.all_eq_true.1 h5 j hj) i hi
 have hp0 : ∀ i ∈ p0, (listOf l.toArray.size p0).getD i false = true := fun i hi => by
  unfold listOf
  rw [foldl_get]
  exact .inr ⟨hi, by have := List.all_eq_true.1 h7 i hi; simpa using this⟩
 rw [← wpOps_of_list p2] at h
 have hK0 : ∀ listed, GoodK R listed ([] : Known) := fun listed x hx => by cases hx
 have ha0 : ∀ w, allK ([] : Known) w := fun w x hx => by cases hx
 have g := wpAny_pure (P := P) (Q' := NoPanic Q) (w := w.drew) h1 (fun _ _ _ h => h) (p2.length + p1.length) p0 (Array.replicate l.toArray.size false) a h20 h fun a' ha' =>
  wpAny_of_wpU (p0 := p0) (p1 := p1) (Region.noSelect_spec h1) hS hC hU h3 hcov hdep p1.length p1 _ [] a' w.drew rfl (fun _ h => h) (fun i hi => by
   rcases List.mem_append.1 hi with h | h
   ·exact .inl (hp0 i h)
   ·exact .inr h) hsh0 ⟨listOf_size _ _, fun k hk => by
    have hk := (foldl_get p0 _ k).1 hk
    rcases hk with hk | ⟨hk, _⟩
    ·by_cases hl : k < l.length <;> simp [Array.getD, hl] at hk
    ·exact List.mem_append_left _ hk⟩ (hK0 _) (FirstP.of_firstB p1 _ h2) hw (ha0 _) hw0 ha'
 rw [beq_iff_eq] at h6
 rw [h6] at g
 exact wp_region_noPanic (wp_region_any hm g)
theorem u_nil {Q : Act → World → Prop} {K : Known} {a : Act} (h : ∀ w, C w → allK K w → Q a w) : wpU P ops C R S U Q [] K a := h
theorem u_run {Q : Act → World → Prop} {l : List Oper} {i : Nat} {o : Oper} {rest : List Nat} {K : Known} {a : Act} (ho : l[i]? = some o) (hs : S i = none) (hw : Region.wanted o (yielded l.toArray a.tmps) = true)
  (h : ∃ v, (∀ w, C w → U i w → knownAt l.toArray K i w → (execOp a.eval o).run P w = .ok (.value v) w) ∧ wpU P l.toArray C R S U Q rest K (a.put o.dst v)) : wpU P l.toArray C R S U Q (i :: rest) K a := by
 show uOp _ _ _ _ _ _ _ _ _ _
 unfold uOp
 have ho' : l.toArray[i]? = some o := by simpa using ho
 simp only [ho', hw, if_true, hs]
 exact h
theorem u_skip {Q : Act → World → Prop} {l : List Oper} {i : Nat} {o : Oper} {rest : List Nat} {K : Known} {a : Act} (ho : l[i]? = some o) (hw : Region.wanted o (yielded l.toArray a.tmps) = false)
  (h : wpU P l.toArray C R S U Q rest K (a.put o.dst undef)) : wpU P l.toArray C R S U Q (i :: rest) K a := by
 show uOp _ _ _ _ _ _ _ _ _ _
 unfold uOp
 have ho' : l.toArray[i]? = some o := by simpa using ho
 simp only [ho', hw]
 exact h
theorem u_skip2 {Q : Act → World → Prop} {l : List Oper} {i : Nat} {rest : List Nat} {K : Known} {a : Act} (d : Option Nat) (ho : (l[i]?).map (·.dst) = some d) (hw : (l[i]?).all (fun o => !Region.wanted o (yielded l.toArray a.tmps)) = true)
  (h : wpU P l.toArray C R S U Q rest K (a.put d undef)) : wpU P l.toArray C R S U Q (i :: rest) K a := by
 cases hl : l[i]? with
 | none => rw [hl] at ho; cases ho
 | some o =>
  rw [hl] at ho hw
  obtain rfl : o.dst = d := by simpa using ho
  exact u_skip hl (by simpa using hw) h
theorem u_eff {Q : Act → World → Prop} {l : List Oper} {i : Nat} {o : Oper} {rest : List Nat} {K : Known} {a : Act} {A : Value → World → Prop} (ho : l[i]? = some o) (hs : S i = some A) (hw : Region.wanted o (yielded l.toArray a.tmps) = true)
  (h1 : ∀ w, C w → U i w → knownAt l.toArray K i w → growAt P (R i) o a A w) (h : ∀ v, (∃ w, C w ∧ A v w) → wpU P l.toArray C R S U Q rest ((i, A v) :: K) (a.put o.dst v)) : wpU P l.toArray C R S U Q (i :: rest) K a := by
 show uOp _ _ _ _ _ _ _ _ _ _
 unfold uOp
 have ho' : l.toArray[i]? = some o := by simpa using ho
 simp only [ho', hw, if_true, hs]
 exact ⟨h1, h⟩
def onceOf (j : Nat) (F : World → Prop) (i : Nat) (w : World) : Prop := i = j → F w
theorem stableU_once {j : Nat} {F : World → Prop} (h : ∀ i, i ≠ j → ∀ w w', F w → R i w w' → F w') : StableU R (onceOf j F) := fun i k hk w w' hu hr e => h k (fun e' => hk (e'.trans e.symm)) w w' (hu e) hr
end
end Go.Proofs.YtihaliffcobacaaGreatDoor.M
