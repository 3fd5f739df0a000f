/- GrowHFree: laid together. -/
import Derived.Test.YtggkidnlmaindaaDoorPxB1
import Derived.Deep.Quiet
import Derived.Deep.QuietTactic
import Derived.KernelRfl
import Derived.Deep.RegionHeld3
set_option linter.unusedSimpArgs false
set_option linter.unusedVariables false
namespace Go.Proofs.YtggkidnlmaindaaDoor.H
open Go.RowKit
abbrev Pred := Nat → Nat → Value → World → Prop
abbrev Spec := Nat → Option Pred
abbrev Fact := Nat × ((Nat × Nat) × (World → Prop))
abbrev Known := List Fact
def depB (ops : Array Oper) : Nat → Nat → Nat → Bool
 | 0, _, _ => false
 | f + 1, j, i => match ops[j]? with
  | none => false
  | some o => o.after.any fun e => Region.binds .any e && (e.on == i || depB ops f e.on i)
def knownAt (ops : Array Oper) (K : Known) (j : Nat) (w : World) : Prop := ∀ x ∈ K, depB ops ops.size j x.1 = true → x.2.2 w
def allK (K : Known) (w : World) : Prop := (∀ x ∈ K, x.2.2 w ∧ x.2.1.2 ≤ w.heap.size) ∧ ∀ x ∈ K, ∀ y ∈ K, x.1 ≠ y.1 → x.2.1.2 ≤ y.2.1.1 ∨ y.2.1.2 ≤ x.2.1.1
theorem allK.sub {K K' : Known} {w : World} (h : allK K w) (hs : ∀ x ∈ K', x ∈ K) : allK K' w := ⟨fun x hx => h.1 x (hs x hx), fun x hx y hy => h.2 x (hs x hx) y (hs y hy)⟩
theorem allK.nil (w : World) : allK [] w := ⟨fun x hx => (by cases hx), fun x hx => (by cases hx)⟩
def Inh (C : World → Prop) (K : Known) : Prop := ∃ w, C w ∧ allK K w
def growUpon (P : Program) (A : Pred) (w : World) : Result Next → Prop
 | .ok (.value v) w' => Ext w w' ∧ A w.heap.size w'.heap.size v w'
 | .ok (.enter f args) w' => Ext w w' ∧ Calls P f args w' (fun e w'' => ∃ v, e = .returned v ∧ Ext w' w'' ∧ A w.heap.size w''.heap.size v w'')
 | _ => False
def growAt (P : Program) (o : Oper) (a : Act) (A : Pred) (w : World) : Prop := growUpon P A w ((execOp a.eval o).run P w)
section
variable (P : Program) (ops : Array Oper) (C : World → Prop) (S : Spec)
def gOp (i : Nat) (next : Known → Act → Prop) (K : Known) (a : Act) : Prop :=
 match ops[i]? with
 | none => next K a
 | some o => if Region.wanted o (yielded ops a.tmps) then
   match S i with
   | none => ∃ v, (∀ w, C w → knownAt ops K i w → (execOp a.eval o).run P w = .ok (.value v) w) ∧ next K (a.put o.dst v)
   | some A => (∀ w, C w → knownAt ops K i w → growAt P o a A w) ∧ ∀ v n m, Inh C ((i, (n, m), A n m v) :: K) → next ((i, (n, m), A n m v) :: K) (a.put o.dst v)
  else next K (a.put o.dst undef)
def wpGrow (Q : Act → World → Prop) : Nat → List Oper → Known → Act → Prop
 | _, [], K, a => ∀ w, C w → allK K w → Q a w
 | i, _ :: rest, K, a => gOp P ops C S i (wpGrow Q (i + 1) rest) K a
def wpAnyG (Q : Act → World → Prop) : Nat → Array Bool → Known → Act → Prop
 | 0, listed, K, a => Region.ready .any ops listed = [] ∧ ∀ w, C w → allK K w → Q a w
 | fuel + 1, listed, K, a =>
  (Region.ready .any ops listed = [] → ∀ w, C w → allK K w → Q a w) ∧
  ∀ i ∈ Region.ready .any ops listed, gOp P ops C S i (wpAnyG Q fuel (listed.setIfInBounds i true)) K a
end
section
variable {P : Program} {ops : Array Oper} {C : World → Prop} {S : Spec}
theorem gOp_mono {i : Nat} {next next' : Known → Act → Prop} {K : Known} {a : Act} (h : ∀ K a, next K a → next' K a) (hh : gOp P ops C S i next K a) : gOp P ops C S i next' K a := by
 unfold gOp at *
 split
 ·rename_i ho; simp only [ho] at hh; exact h _ _ hh
 ·rename_i o ho
  simp only [ho] at hh
  split
  ·rename_i hw
   simp only [hw, if_true] at hh
   split
   ·rename_i hs; simp only [hs] at hh; obtain ⟨v, h1, h2⟩ := hh; exact ⟨v, h1, h _ _ h2⟩
   ·rename_i A hs; simp only [hs] at hh; exact ⟨hh.1, fun v n m hc => h _ _ (hh.2 v n m hc)⟩
  ·rename_i hw; simp only [hw] at hh; exact h _ _ hh
def StableS (S : Spec) : Prop := ∀ i A, S i = some A → ∀ n m v w w', A n m v w → Ext w w' → A n m v w'
def StableK (K : Known) : Prop := ∀ x ∈ K, ∀ w w', x.2.2 w → Ext w w' → x.2.2 w'
def StableC (C : World → Prop) : Prop := ∀ w w', C w → Ext w w' → C w'
theorem allK.knownAt {K : Known} {w : World} {j : Nat} (h : allK K w) : knownAt ops K j w := fun x hx _ => (h.1 x hx).1
theorem allK.ext {K : Known} {w w' : World} (h : allK K w) (hS : StableK K) (he : Ext w w') : allK K w' := ⟨fun x hx => ⟨hS x hx w w' (h.1 x hx).1 he, Nat.le_trans (h.1 x hx).2 he.size⟩, h.2⟩
theorem allK.cons {K : Known} {w w' : World} {i n m : Nat} {F : World → Prop} (h : allK K w) (hS : StableK K) (he : Ext w w') (hF : F w') (hn : n = w.heap.size) (hm : m = w'.heap.size) : allK ((i, (n, m), F) :: K) w' := by
 subst hn hm
 have h2 := h.ext hS he
 refine ⟨fun x hx => ?_, fun x hx y hy hne => ?_⟩
 ·rcases List.mem_cons.1 hx with rfl | hx
  ·exact ⟨hF, Nat.le_refl _⟩
  ·exact h2.1 x hx
 ·rcases List.mem_cons.1 hx with rfl | hx
  ·rcases List.mem_cons.1 hy with rfl | hy
   ·exact absurd rfl hne
   ·exact .inr (h.1 y hy).2
  ·rcases List.mem_cons.1 hy with rfl | hy
   ·exact .inl (h.1 x hx).2
   ·exact h.2 x hx y hy hne
theorem StableK.cons {K : Known} (h : StableK K) (hS : StableS S) {i : Nat} {A : Pred} (hi : S i = some A) (n m : Nat) (v : Value) : StableK ((i, (n, m), A n m v) :: K) := by
 intro x hx w w' h1 he
 rcases List.mem_cons.1 hx with rfl | hx
 ·exact hS i A hi n m v w w' h1 he
 ·exact h x hx w w' h1 he
theorem wpOp_of_gOp {i : Nat} {a : Act} {K : Known} {next : Known → Act → Prop} {K' : Act → World → Prop} {Q' : Exit → Act → World → Prop} {w : World} (hS : StableS S) (hC : StableC C) (hK : StableK K)
  (hCw : C w) (hKw : allK K w) (h : ∀ K a w', StableK K → C w' → allK K w' → next K a → K' a w') (hh : gOp P ops C S i next K a) : wpOp P ops Q' i K' a w := by
 unfold gOp at hh
 unfold wpOp
 split
 ·rename_i ho; simp only [ho] at hh; exact h _ _ _ hK hCw hKw hh
 ·rename_i o ho
  simp only [ho] at hh
  split
  ·rename_i hw
   simp only [hw, if_true] at hh
   refine .inl ?_
   unfold Oper.wp
   split at hh
   ·obtain ⟨v, h1, h2⟩ := hh
    rw [h1 w hCw hKw.knownAt]
    exact h _ _ _ hK hCw hKw h2
   ·rename_i A hs
    have h1 := hh.1 w hCw hKw.knownAt
    unfold growAt at h1
    generalize (execOp a.eval o).run P w = r at *
    cases r with
    | ok n w' =>
     cases n <;> simp only [growUpon] at h1 <;> simp only [Oper.upon]
     case value v =>
      have hc := hC w w' hCw h1.1
      have hall : allK ((i, (w.heap.size, w'.heap.size), A w.heap.size w'.heap.size v) :: K) w' := hKw.cons hK h1.1 h1.2 rfl rfl
      exact h _ _ _ (hK.cons hS hs _ _ v) hc hall (hh.2 v _ _ ⟨w', hc, hall⟩)
     case enter f args =>
      obtain ⟨he, hcall⟩ := h1
      refine hcall.mono fun e w'' ⟨v, hv, he', hA⟩ => ?_
      subst hv
      have he'' := he.ext he'
      have hc := hC w w'' hCw he''
      have hall : allK ((i, (w.heap.size, w''.heap.size), A w.heap.size w''.heap.size v) :: K) w'' := hKw.cons hK he'' hA rfl rfl
      exact h _ _ _ (hK.cons hS hs _ _ v) hc hall (hh.2 v _ _ ⟨w'', hc, hall⟩)
    | halt x w' => simp only [growUpon] at h1
  ·rename_i hw; simp only [hw] at hh; exact h _ _ _ hK hCw hKw hh
theorem wpAny_of_grow {Q : Act → World → Prop} {Q' : Exit → Act → World → Prop} (hS : StableS S) (hC : StableC C) (hQ : ∀ a w, Q a w → Q' .normal a w) : ∀ (fuel : Nat) (listed : Array Bool) (K : Known) (a : Act) (w : World),
  StableK K → C w → allK K w → wpAnyG P ops C S Q fuel listed K a → wpAny P .any ops Q' fuel listed a w
 | 0, _, _, _, _, _, hc, hk, h => ⟨h.1, hQ _ _ (h.2 _ hc hk)⟩
 | fuel + 1, _, _, _, _, hK, hc, hk, h => ⟨fun h0 => hQ _ _ (h.1 h0 _ hc hk), fun i hi => wpOp_of_gOp hS hC hK hc hk (fun K' a' w' hK' hc' hk' hn => wpAny_of_grow hS hC hQ fuel _ K' a' w' hK' hc' hk' hn) (h.2 i hi)⟩
def Shut (ops : Array Oper) (listed : Array Bool) : Prop :=
 ∀ j o, ops[j]? = some o → listed.getD j false = true → ∀ e ∈ o.after, Region.binds .any e = true → listed.getD e.on false = true
theorem getD_set_cases {listed : Array Bool} {i j : Nat} (h : (listed.setIfInBounds i true).getD j false = true) : j = i ∨ listed.getD j false = true := by
 by_cases e : i = j
 ·exact .inl e.symm
 ·rw [getD_set_ne false e] at h; exact .inr h
theorem Shut.set {listed : Array Bool} (h : Shut ops listed) {i : Nat} (hi : i ∈ Region.ready .any ops listed) : Shut ops (listed.setIfInBounds i true) := by
 intro j o ho hj e he hb
 rcases getD_set_cases hj with rfl | hj
 ·obtain ⟨_, o', ho', hall⟩ := mem_ready.1 hi
  rw [ho] at ho'
  obtain rfl := Option.some.inj ho'
  exact getD_set_true (hall e he hb)
 ·exact getD_set_true (h j o ho hj e he hb)
theorem depB_listed {listed : Array Bool} (h : Shut ops listed) : ∀ (f j i : Nat), listed.getD j false = true → depB ops f j i = true → listed.getD i false = true
 | 0, _, _, _, h0 => by simp [depB] at h0
 | f + 1, j, i, hj, h0 => by
  unfold depB at h0
  split at h0
  ·cases h0
  ·rename_i o ho
   obtain ⟨k, hk, hb⟩ := Array.any_eq_true.1 h0
   simp only [Bool.and_eq_true, Bool.or_eq_true, beq_iff_eq] at hb
   have hl := h j o ho hj _ (Array.getElem_mem hk) hb.1
   rcases hb.2 with rfl | hd
   ·exact hl
   ·exact depB_listed h f _ i hl hd
theorem depB_ready {listed : Array Bool} (h : Shut ops listed) {f j i : Nat} (hj : j ∈ Region.ready .any ops listed) (h0 : depB ops f j i = true) : listed.getD i false = true := by
 cases f with
 | zero => simp [depB] at h0
 | succ f =>
  obtain ⟨_, o, ho, hall⟩ := mem_ready.1 hj
  unfold depB at h0
  simp only [ho] at h0
  obtain ⟨k, hk, hb⟩ := Array.any_eq_true.1 h0
  simp only [Bool.and_eq_true, Bool.or_eq_true, beq_iff_eq] at hb
  have hl := hall _ (Array.getElem_mem hk) hb.1
  rcases hb.2 with rfl | hd
  ·exact hl
  ·exact depB_listed h f _ i hl hd
theorem not_listed_of_ready {listed : Array Bool} {j : Nat} (hj : j ∈ Region.ready .any ops listed) : listed.getD j false = false := by
 have h0 := (mem_ready.1 hj).1
 rcases Nat.lt_or_ge j listed.size with h' | h'
 ·simp [h'] at h0 ⊢; exact h0
 ·simp [Array.getElem?_eq_none h']
theorem knownAt_cons {listed : Array Bool} (h : Shut ops listed) {i j : Nat} (hi : i ∈ Region.ready .any ops listed) (hj : j ∈ Region.ready .any ops listed) {K : Known} {nm : Nat × Nat} {F : World → Prop} {w : World} :
  knownAt ops ((i, nm, F) :: K) j w ↔ knownAt ops K j w := by
 constructor
 ·exact fun hk x hx => hk x (List.mem_cons_of_mem _ hx)
 ·intro hk x hx hd
  rcases List.mem_cons.1 hx with rfl | hx
  ·have := depB_ready h hj hd
   rw [not_listed_of_ready hi] at this
   cases this
  ·exact hk x hx hd
def SameK (K K' : Known) : Prop := ∀ x, x ∈ K ↔ x ∈ K'
theorem SameK.allK {K K' : Known} (h : SameK K K') {w : World} : allK K w ↔ allK K' w := ⟨fun hk => hk.sub fun x hx => (h x).2 hx, fun hk => hk.sub fun x hx => (h x).1 hx⟩
theorem SameK.knownAt {K K' : Known} (h : SameK K K') {j : Nat} {w : World} : knownAt ops K j w ↔ knownAt ops K' j w := ⟨fun hk x hx => hk x ((h x).2 hx), fun hk x hx => hk x ((h x).1 hx)⟩
theorem SameK.cons {K K' : Known} (h : SameK K K') (y : Fact) : SameK (y :: K) (y :: K') := fun x => by simp only [List.mem_cons, h x]
theorem SameK.swap (x y : Fact) (K : Known) : SameK (x :: y :: K) (y :: x :: K) := fun z => by
 simp only [List.mem_cons]
 exact ⟨fun h => by rcases h with h | h | h <;> simp [h], fun h => by rcases h with h | h | h <;> simp [h]⟩
theorem gOp_same {i : Nat} {next next' : Known → Act → Prop} {K K' : Known} {a : Act} (hk : SameK K K') (h : ∀ K K' a, SameK K K' → next K a → next' K' a) (hh : gOp P ops C S i next K a) : gOp P ops C S i next' K' a := by
 unfold gOp at *
 split
 ·rename_i ho; simp only [ho] at hh; exact h _ _ _ hk hh
 ·rename_i o ho
  simp only [ho] at hh
  split
  ·rename_i hw
   simp only [hw, if_true] at hh
   split
   ·rename_i hs; simp only [hs] at hh; obtain ⟨v, h1, h2⟩ := hh; exact ⟨v, fun w hc hka => h1 w hc (hk.knownAt.2 hka), h _ _ _ hk h2⟩
   ·rename_i A hs; simp only [hs] at hh; exact ⟨fun w hc hka => hh.1 w hc (hk.knownAt.2 hka), fun v n m ⟨w, hc, ha⟩ => h _ _ _ (hk.cons _) (hh.2 v n m ⟨w, hc, (hk.cons _).allK.2 ha⟩)⟩
  ·rename_i hw; simp only [hw] at hh; exact h _ _ _ hk hh
theorem wpAnyG_same {Q : Act → World → Prop} : ∀ (fuel : Nat) (listed : Array Bool) (K K' : Known) (a : Act), SameK K K' → wpAnyG P ops C S Q fuel listed K a → wpAnyG P ops C S Q fuel listed K' a
 | 0, _, _, _, _, hk, h => ⟨h.1, fun w hc ha => h.2 w hc (hk.allK.2 ha)⟩
 | fuel + 1, _, _, _, _, hk, h => ⟨fun h0 w hc ha => h.1 h0 w hc (hk.allK.2 ha), fun i hi => gOp_same hk (fun K K' a hk' hn => wpAnyG_same fuel _ K K' a hk' hn) (h.2 i hi)⟩
theorem gOp_put {j : Nat} {oi oj : Oper} (hj : ops[j]? = some oj) (hap : oi.apart ops oj = true) (hsj : ∀ cs b, oj.op ≠ .select cs b) {next : Known → Act → Prop} {K : Known} {a : Act} {v : Value}
  (h : gOp P ops C S j next K (a.put oi.dst v)) : gOp P ops C S j (fun K' a' => next K' (a'.put oi.dst v)) K a := by
 obtain ⟨h1, h2, _⟩ := Oper.apart_spec hap
 unfold gOp at *
 simp only [hj] at *
 rw [wanted_put oj a oi.dst v h1] at h
 have hx : execOp (a.put oi.dst v).eval oj = execOp a.eval oj := execOp_put oj hsj a oi.dst v h1
 split
 ·rename_i hw
  simp only [hw, if_true] at h
  split
  ·rename_i hs
   simp only [hs] at h
   obtain ⟨u, hu, hn⟩ := h
   exact ⟨u, fun w hc hk => by rw [← hx]; exact hu w hc hk, by rw [← Act.put_comm a v u h2]; exact hn⟩
  ·rename_i A hs
   simp only [hs] at h
   refine ⟨fun w hc hk => ?_, fun u n m hc => by rw [← Act.put_comm a v u h2]; exact h.2 u n m hc⟩
   have := h.1 w hc hk
   unfold growAt at *
   rwa [hx] at this
 ·rename_i hw
  simp only [hw] at h
  rw [← Act.put_comm a v undef h2]; exact h
theorem growAt_val {o : Oper} {a : Act} {A : Pred} {w : World} (hC : StableC C) (hc : C w) (h1 : growAt P o a A w) : ∃ v w1, C w1 ∧ Ext w w1 ∧ A w.heap.size w1.heap.size v w1 := by
 unfold growAt at h1
 generalize (execOp a.eval _).run P w = r at *
 cases r with
 | ok n w' =>
  cases n <;> simp only [growUpon] at h1
  case value v => exact ⟨v, w', hC _ _ hc h1.1, h1.1, h1.2⟩
  case enter f args =>
   obtain ⟨he, hcall⟩ := h1
   obtain ⟨e, w'', fr, ⟨v, _, he', hA⟩, _⟩ := hcall []
   exact ⟨v, w'', hC _ _ hc (he.ext he'), he.ext he', hA⟩
 | halt x w' => simp only [growUpon] at h1
theorem growAt_inh {i : Nat} {o : Oper} {a : Act} {A : Pred} {w : World} {K : Known} (hC : StableC C) (hK : StableK K) (hc : C w) (hk : allK K w) (h1 : growAt P o a A w) : ∃ v n m, Inh C ((i, (n, m), A n m v) :: K) := by
 obtain ⟨v, w1, h2, h3, h4⟩ := growAt_val hC hc h1
 exact ⟨v, _, _, w1, h2, hk.cons hK h3 h4 rfl rfl⟩
theorem gOp_inh {i : Nat} {next : Known → Act → Prop} {K : Known} {a : Act} (hC : StableC C) (hK : StableK K) (hi : Inh C K) (hh : gOp P ops C S i next K a) : ∃ K' a', next K' a' := by
 obtain ⟨w, hc, hk⟩ := hi
 unfold gOp at hh
 split at hh
 ·exact ⟨_, _, hh⟩
 ·split at hh
  ·split at hh
   ·obtain ⟨v, _, h2⟩ := hh; exact ⟨_, _, h2⟩
   ·obtain ⟨v, n, m, hv⟩ := growAt_inh (i := i) hC hK hc hk (hh.1 w hc hk.knownAt)
    exact ⟨_, _, hh.2 v n m hv⟩
  ·exact ⟨_, _, hh⟩
theorem gOp_comm {listed : Array Bool} (hsh : Shut ops listed) {i j : Nat} {oi oj : Oper} (hi : ops[i]? = some oi) (hj : ops[j]? = some oj) (hap : oi.apart ops oj = true)
  (hsi : ∀ cs b, oi.op ≠ .select cs b) (hsj : ∀ cs b, oj.op ≠ .select cs b) (hri : i ∈ Region.ready .any ops listed) (hrj : j ∈ Region.ready .any ops listed)
  {N N' : Known → Act → Prop} (hN : ∀ K K' a, SameK K K' → N K a → N' K' a) {K : Known} {a : Act} (hC : StableC C) (hK : StableK K) (hinh : Inh C K)
  (h : gOp P ops C S i (fun K a => gOp P ops C S j N K a) K a) : gOp P ops C S j (fun K a => gOp P ops C S i N' K a) K a := by
 obtain ⟨_, _, h3⟩ := Oper.apart_spec hap
 have hwi : ∀ a u, Region.wanted oi (yielded ops (Act.put a oj.dst u).tmps) = Region.wanted oi (yielded ops a.tmps) := fun a u => wanted_put oi a oj.dst u h3
 have hxi : ∀ a u, execOp (Act.put a oj.dst u).eval oi = execOp a.eval oi := fun a u => execOp_put oi hsi a oj.dst u h3
 conv at h => unfold gOp
 simp only [hi] at h
 by_cases hw : Region.wanted oi (yielded ops a.tmps) = true
 ·simp only [hw, if_true] at h
  cases hs : S i with
  | none =>
   simp only [hs] at h
   obtain ⟨v, hv, hn⟩ := h
   have hn' := gOp_put hj hap hsj hn
   unfold gOp at hn' ⊢
   simp only [hj] at hn' ⊢
   split
   ·rename_i hwj
    simp only [hwj, if_true] at hn'
    split
    ·rename_i hsj'
     simp only [hsj'] at hn'
     obtain ⟨u, hu, hm⟩ := hn'
     refine ⟨u, hu, ?_⟩
     simp only [hi, hwi, hw, if_true, hs, hxi]
     exact ⟨v, hv, hN _ _ _ (fun _ => Iff.rfl) hm⟩
    ·rename_i A hsj'
     simp only [hsj'] at hn'
     refine ⟨hn'.1, fun u n m hc => ?_⟩
     simp only [hi, hwi, hw, if_true, hs, hxi]
     exact ⟨v, fun w hc hk => hv w hc ((knownAt_cons hsh hrj hri).1 hk), hN _ _ _ (fun _ => Iff.rfl) (hn'.2 u n m hc)⟩
   ·rename_i hwj
    simp only [hwj] at hn'
    simp only [hi, hwi, hw, if_true, hs, hxi]
    exact ⟨v, hv, hN _ _ _ (fun _ => Iff.rfl) hn'⟩
  | some Ai =>
   simp only [hs] at h
   obtain ⟨hg, hn⟩ := h
   have hn' := fun v n m hc => gOp_put hj hap hsj (hn v n m hc)
   obtain ⟨w0, hc0, hk0⟩ := hinh
   obtain ⟨v0, n0, m0, hv0⟩ := growAt_inh (i := i) hC hK hc0 hk0 (hg w0 hc0 hk0.knownAt)
   have h0 := hn' v0 n0 m0 hv0
   have back : ∀ K' u, (∀ w, C w → knownAt ops K' i w → knownAt ops K i w) → (∀ v n m, Inh C ((i, (n, m), Ai n m v) :: K') → N' ((i, (n, m), Ai n m v) :: K') ((a.put oj.dst u).put oi.dst v)) → gOp P ops C S i N' K' (a.put oj.dst u) := by
    intro K' u hkn hall
    unfold gOp
    simp only [hi, hwi, hw, if_true, hs]
    refine ⟨fun w hc hk => ?_, hall⟩
    have := hg w hc (hkn w hc hk)
    unfold growAt at *
    rwa [hxi]
   unfold gOp at h0
   conv => unfold gOp
   simp only [hj] at h0 ⊢
   split
   ·rename_i hwj
    simp only [hwj, if_true] at h0
    split
    ·rename_i hsj'
     simp only [hsj'] at h0
     obtain ⟨u, hu, _⟩ := h0
     refine ⟨u, fun w hc hk => hu w hc ((knownAt_cons hsh hri hrj).2 hk), back K u (fun _ _ h => h) fun v n m hc => ?_⟩
     have hm := hn' v n m hc
     unfold gOp at hm
     simp only [hj, hwj, if_true, hsj'] at hm
     obtain ⟨u', hu', hm⟩ := hm
     have e1 := hu w0 hc0 ((knownAt_cons hsh hri hrj).2 hk0.knownAt)
     have e2 := hu' w0 hc0 ((knownAt_cons hsh hri hrj).2 hk0.knownAt)
     rw [e1] at e2
     injection e2 with e2 _
     injection e2 with e2
     subst e2
     exact hN _ _ _ (fun _ => Iff.rfl) hm
    ·rename_i A hsj'
     simp only [hsj'] at h0
     refine ⟨fun w hc hk => h0.1 w hc ((knownAt_cons hsh hri hrj).2 hk), fun u nu mu _ => back _ u (fun w _ hk => (knownAt_cons hsh hrj hri).1 hk) fun v n m ⟨w1, hc1, ha1⟩ => ?_⟩
     have hm := hn' v n m ⟨w1, hc1, ha1.sub fun x hx => by
      rcases List.mem_cons.1 hx with rfl | hx
      ·exact List.mem_cons_self
      ·exact List.mem_cons_of_mem _ (List.mem_cons_of_mem _ hx)⟩
     unfold gOp at hm
     simp only [hj, hwj, if_true, hsj'] at hm
     exact hN _ _ _ (SameK.swap _ _ _) (hm.2 u nu mu ⟨w1, hc1, (SameK.swap _ _ _).allK.1 ha1⟩)
   ·rename_i hwj
    refine back K undef (fun _ _ h => h) fun v n m hc => ?_
    have hm := hn' v n m hc
    unfold gOp at hm
    simp only [hj, hwj] at hm
    exact hN _ _ _ (fun _ => Iff.rfl) hm
 ·simp only [hw] at h
  have hn' := gOp_put hj hap hsj h
  refine gOp_mono (fun K' a' hm => ?_) (a := a) (K := K) (i := j) (next := fun K' a' => Region.wanted oi (yielded ops a'.tmps) = false ∧ N K' (a'.put oi.dst undef)) ?_
  ·unfold gOp
   simp only [hi, hm.1]
   exact hN _ _ _ (fun _ => Iff.rfl) hm.2
  ·have hwf : Region.wanted oi (yielded ops a.tmps) = false := by simpa using hw
   unfold gOp at hn' ⊢
   simp only [hj] at hn' ⊢
   split
   ·rename_i hwj
    simp only [hwj, if_true] at hn'
    split
    ·rename_i hsj'
     simp only [hsj'] at hn'
     obtain ⟨u, hu, hm⟩ := hn'
     exact ⟨u, hu, by rw [hwi]; exact hwf, hm⟩
    ·rename_i A hsj'
     simp only [hsj'] at hn'
     exact ⟨hn'.1, fun u n m hc => ⟨by rw [hwi]; exact hwf, hn'.2 u n m hc⟩⟩
   ·rename_i hwj
    simp only [hwj] at hn'
    exact ⟨by rw [hwi]; exact hwf, hn'⟩
theorem gOp_keep {i : Nat} {next : Known → Act → Prop} {K : Known} {a : Act} (hS : StableS S) (hK : StableK K) (hi : Inh C K) (hh : gOp P ops C S i next K a) :
  gOp P ops C S i (fun K' a' => StableK K' ∧ Inh C K' ∧ next K' a') K a := by
 unfold gOp at *
 split
 ·rename_i ho; simp only [ho] at hh; exact ⟨hK, hi, hh⟩
 ·rename_i o ho
  simp only [ho] at hh
  split
  ·rename_i hw
   simp only [hw, if_true] at hh
   split
   ·rename_i hs; simp only [hs] at hh; obtain ⟨v, h1, h2⟩ := hh; exact ⟨v, h1, hK, hi, h2⟩
   ·rename_i A hs; simp only [hs] at hh; exact ⟨hh.1, fun v n m hc => ⟨hK.cons hS hs n m v, hc, hh.2 v n m hc⟩⟩
  ·rename_i hw; simp only [hw] at hh; exact ⟨hK, hi, hh⟩
theorem wpAnyG_first {Q : Act → World → Prop} {i : Nat} {oi : Oper} (hi : ops[i]? = some oi) (hsel : ∀ (j : Nat) (o : Oper) cs b, ops[j]? = some o → o.op ≠ .select cs b) (hC : StableC C) (hS : StableS S) :
  ∀ (fuel : Nat) (listed : Array Bool) (K : Known) (a : Act), Shut ops listed → StableK K → Inh C K →
   (∀ j oj, ops[j]? = some oj → j ≠ i → listed.getD j true = false → (∀ e ∈ oj.after, Region.binds .any e = true → e.on ≠ i) → oi.apart ops oj = true) →
   i ∈ Region.ready .any ops listed →
   gOp P ops C S i (wpAnyG P ops C S Q fuel (listed.setIfInBounds i true)) K a → wpAnyG P ops C S Q (fuel + 1) listed K a := by
 intro fuel
 induction fuel with
 | zero =>
  intro listed K a _ hK hinh _ hr H
  refine ⟨fun h => (by rw [h] at hr; cases hr), fun j hj => ?_⟩
  by_cases hji : j = i
  ·subst hji; exact H
  ·obtain ⟨K', a', h0⟩ := gOp_inh hC hK hinh H
   have := ready_mono hj hji
   rw [h0.1] at this
   cases this
 | succ fuel ih =>
  intro listed K a hsh hK hinh hfree hr H
  refine ⟨fun h => (by rw [h] at hr; cases hr), fun j hj => ?_⟩
  by_cases hji : j = i
  ·subst hji; exact H
  ·obtain ⟨hjun, oj, hoj, hall⟩ := mem_ready.1 hj
   have hnot : ∀ e ∈ oj.after, Region.binds .any e = true → e.on ≠ i := fun e he hb heq => by
    have h1 := hall e he hb
    rw [heq, not_listed_of_ready hr] at h1
    cases h1
   have H' : gOp P ops C S i (fun K a => gOp P ops C S j (wpAnyG P ops C S Q fuel ((listed.setIfInBounds i true).setIfInBounds j true)) K a) K a :=
    gOp_mono (fun K a h => h.2 j (ready_mono hj hji)) H
   have h2 := gOp_comm (N' := wpAnyG P ops C S Q fuel ((listed.setIfInBounds j true).setIfInBounds i true)) hsh hi hoj (hfree j oj hoj hji hjun hnot) (fun cs b => hsel i oi cs b hi) (fun cs b => hsel j oj cs b hoj) hr hj
    (fun K K' a hk h => by rw [Array.setIfInBounds_comm _ _ hji]; exact wpAnyG_same fuel _ K K' a hk h) hC hK hinh H'
   have hfree' : ∀ k ok, ops[k]? = some ok → k ≠ i → (listed.setIfInBounds j true).getD k true = false →
     (∀ e ∈ ok.after, Region.binds .any e = true → e.on ≠ i) → oi.apart ops ok = true := fun k ok hk hki hun hno => by
    refine hfree k ok hk hki ?_ hno
    by_cases hjk : j = k
    ·subst hjk; exact hjun
    ·rw [getD_set_ne true hjk] at hun; exact hun
   exact gOp_mono (fun K' a' h3 => ih (listed.setIfInBounds j true) K' a' (hsh.set hj) h3.1 h3.2.1 hfree' (ready_mono hr (Ne.symm hji)) h3.2.2) (gOp_keep hS hK hinh h2)
theorem wpAnyG_lex {Q : Act → World → Prop} (hs : Region.noSelect ops = true) (hC : StableC C) (hS : StableS S) : ∀ (l : List Oper) (k : Nat) (listed : Array Bool) (K : Known) (a : Act), Shut ops listed → StableK K → Inh C K → (∀ j, l[j]? = ops[k + j]?) →
  Region.lexFrom .any ops l.length k listed = true → wpGrow P ops C S Q k l K a → wpAnyG P ops C S Q l.length listed K a
 | [], _, _, _, _, _, _, _, _, hB, h => ⟨by simpa [Region.lexFrom] using hB, h⟩
 | o :: l, k, listed, K, a, hsh, hK, hinh, hl, hB, h => by
  have h0 : ops[k]? = some o := by simpa using (hl 0).symm
  simp only [List.length_cons, Region.lexFrom, Bool.and_eq_true] at hB
  obtain ⟨⟨hr, hf⟩, hB'⟩ := hB
  have hr' : k ∈ Region.ready .any ops listed := by simpa using hr
  exact wpAnyG_first h0 (Region.noSelect_spec hs) hC hS l.length listed K a hsh hK hinh (Region.free_spec h0 hf) hr'
   (gOp_mono (fun K' a' hk => wpAnyG_lex hs hC hS l (k + 1) _ K' a' (hsh.set hr') hk.1 hk.2.1 (fun j => by have := hl (j + 1); simpa [Nat.add_assoc, Nat.add_comm 1 j] using this) hB' hk.2.2) (gOp_keep hS hK hinh h))
theorem wp_region_grow (S : Spec) (C : World → Prop) {id : Nat} {Q : Exit → Act → World → Prop} {a : Act} {w : World} {l : List Oper} (hS : StableS S) (hC : StableC C) (hm : P.follows .mixedOrders = true)
  (hB : Region.lexB .any l.toArray = true) (hw : C w.drew)
  (h : wpGrow P l.toArray C S (fun a' w' => Q .normal a' w') 0 l [] a) : (Code.region id l.toArray true).wp P Q a w := by
 simp only [Region.lexB, Bool.and_eq_true] at hB
 have hsh : Shut l.toArray (Array.replicate l.toArray.size false) := by
  intro j o _ hj
  by_cases hl : j < l.length <;> simp [Array.getD, hl] at hj
 refine wp_region_any hm (wpAny_of_grow (Q := fun a' w' => Q .normal a' w') hS hC (fun _ _ h => h) _ _ [] _ _ (fun x hx => by cases hx) hw (allK.nil _) ?_)
 have := wpAnyG_lex (Q := fun a' w' => Q .normal a' w') hB.1 hC hS l 0 (Array.replicate l.toArray.size false) [] a hsh (fun x hx => by cases hx) ⟨w.drew, hw, allK.nil _⟩ (by simp) (by simpa using hB.2) h
 simpa using this
theorem grow_nil {Q : Act → World → Prop} {i : Nat} {K : Known} {a : Act} (h : ∀ w, C w → allK K w → Q a w) : wpGrow P ops C S Q i [] K a := h
theorem grow_skip {Q : Act → World → Prop} {i : Nat} {o : Oper} {rest : List Oper} {K : Known} {a : Act} (ho : ops[i]? = some o) (hw : Region.wanted o (yielded ops a.tmps) = false)
  (h : wpGrow P ops C S Q (i + 1) rest K (a.put o.dst undef)) : wpGrow P ops C S Q i (o :: rest) K a := by
 show gOp _ _ _ _ _ _ _ _
 unfold gOp
 simp only [ho, hw]
 exact h
theorem grow_pure {Q : Act → World → Prop} {i : Nat} {o : Oper} {rest : List Oper} {K : Known} {a : Act} {v : Value} (ho : ops[i]? = some o) (hs : S i = none) (hw : Region.wanted o (yielded ops a.tmps) = true)
  (h1 : ∀ w, C w → knownAt ops K i w → (execOp a.eval o).run P w = .ok (.value v) w) (h : wpGrow P ops C S Q (i + 1) rest K (a.put o.dst v)) : wpGrow P ops C S Q i (o :: rest) K a := by
 show gOp _ _ _ _ _ _ _ _
 unfold gOp
 simp only [ho, hw, if_true, hs]
 exact ⟨v, h1, h⟩
theorem grow_eff {Q : Act → World → Prop} {i : Nat} {o : Oper} {rest : List Oper} {K : Known} {a : Act} {A : Pred} (ho : ops[i]? = some o) (hs : S i = some A) (hw : Region.wanted o (yielded ops a.tmps) = true)
  (h1 : ∀ w, C w → knownAt ops K i w → growAt P o a A w) (h : ∀ v n m, Inh C ((i, (n, m), A n m v) :: K) → wpGrow P ops C S Q (i + 1) rest ((i, (n, m), A n m v) :: K) (a.put o.dst v)) : wpGrow P ops C S Q i (o :: rest) K a := by
 show gOp _ _ _ _ _ _ _ _
 unfold gOp
 simp only [ho, hw, if_true, hs]
 exact ⟨h1, h⟩
theorem knownAt.get {K : Known} {j : Nat} {w : World} (h : knownAt ops K j w) {i : Nat} {nm : Nat × Nat} {F : World → Prop} (hm : (i, nm, F) ∈ K) (hd : depB ops ops.size j i = true) : F w := h _ hm hd
theorem Inh.head {K : Known} {i : Nat} {nm : Nat × Nat} {F : World → Prop} (h : Inh C ((i, nm, F) :: K)) : ∃ w, C w ∧ F w := by
 obtain ⟨w, hc, hk⟩ := h
 exact ⟨w, hc, (hk.1 _ List.mem_cons_self).1⟩
theorem stableC_ext (w : World) : StableC (fun w' => Ext w w') := fun _ _ h he => h.ext he
theorem grow_run {Q : Act → World → Prop} {i : Nat} {o : Oper} {rest : List Oper} {K : Known} {a : Act} (ho : ops[i]? = some o) (hs : S i = none) (hw : Region.wanted o (yielded ops a.tmps) = true)
  (h : ∃ v, (∀ w, C w → knownAt ops K i w → (execOp a.eval o).run P w = .ok (.value v) w) ∧ wpGrow P ops C S Q (i + 1) rest K (a.put o.dst v)) : wpGrow P ops C S Q i (o :: rest) K a := by
 obtain ⟨v, h1, h2⟩ := h
 exact grow_pure ho hs hw h1 h2
theorem grow_call {A : Pred} {f : FuncId} {args : Array Value} {w : World} (h : Calls P f args w (fun e w'' => ∃ v, e = .returned v ∧ Ext w w'' ∧ A w.heap.size w''.heap.size v w'')) : growUpon P A w (.ok (.enter f args) w) := ⟨Keep.refl _ _, h⟩
def specOf (L : List (Nat × Pred)) : Spec := fun i => (L.find? fun x => x.1 == i).map (·.2)
theorem stable_nil : StableS (specOf []) := fun i A h => by simp [specOf] at h
theorem stable_cons {i : Nat} {A : Pred} {L : List (Nat × Pred)} (h : ∀ n m v w w', A n m v w → Ext w w' → A n m v w') (hL : StableS (specOf L)) : StableS (specOf ((i, A) :: L)) := by
 intro j B hj n m v w w' hA he
 by_cases e : i = j
 ·subst e
  simp [specOf] at hj
  subst hj
  exact h n m v w w' hA he
 ·have : specOf ((i, A) :: L) j = specOf L j := by simp [specOf, e]
  rw [this] at hj
  exact hL j B hj n m v w w' hA he
end
end Go.Proofs.YtggkidnlmaindaaDoor.H
namespace Go.Proofs.YtggkidnlmaindaaDoor.H
open Go.RowKit
section
variable (P : Program) (ops : Array Oper) (C : World → Prop) (S : Spec)
def wpGrowP (Q : Act → World → Prop) : List Nat → Known → Act → Prop
 | [], K, a => ∀ w, C w → allK K w → Q a w
 | i :: rest, K, a => gOp P ops C S i (wpGrowP Q rest) K a
def allListed (p1 : List Nat) (listed : Array Bool) : Bool := p1.all fun i => listed.getD i false
def wpAnyP (p1 : List Nat) (Q : Act → World → Prop) : Nat → Array Bool → Known → Act → Prop
 | 0, listed, K, a => allListed p1 listed = true ∧ ∀ w, C w → allK K w → Q a w
 | fuel + 1, listed, K, a =>
  (allListed p1 listed = true → ∀ w, C w → allK K w → Q a w) ∧
  (allListed p1 listed = false → Region.ready .any ops listed ≠ [] ∧ ∀ i ∈ Region.ready .any ops listed, i ∈ p1 → gOp P ops C S i (wpAnyP p1 Q fuel (listed.setIfInBounds i true)) K a)
end
section
variable {P : Program} {ops : Array Oper} {C : World → Prop} {S : Spec}
theorem wpAny_more {Q : Exit → Act → World → Prop} : ∀ (n : Nat) (listed : Array Bool) (a : Act) (w : World), wpAny P .any ops Q n listed a w → wpAny P .any ops Q (n + 1) listed a w
 | 0, _, _, _, h => ⟨fun _ => h.2, fun i hi => by rw [h.1] at hi; cases hi⟩
 | n + 1, _, _, _, h => ⟨h.1, fun i hi => wpOp_mono (fun a w hh => wpAny_more n _ a w hh) (h.2 i hi)⟩
theorem wpAny_add {Q : Exit → Act → World → Prop} {n : Nat} {listed : Array Bool} {a : Act} {w : World} (k : Nat) (h : wpAny P .any ops Q n listed a w) : wpAny P .any ops Q (n + k) listed a w := by
 induction k with
 | zero => exact h
 | succ k ih => exact wpAny_more _ _ _ _ ih
def forcedB (ops : Array Oper) : List Nat → Array Bool → Bool
 | [], listed => (Region.ready .any ops listed).isEmpty
 | k :: p, listed => Region.ready .any ops listed == [k] && forcedB ops p (listed.setIfInBounds k true)
theorem wpAny_forced {Q : Exit → Act → World → Prop} : ∀ (p : List Nat) (listed : Array Bool) (a : Act) (w : World), forcedB ops p listed = true → wpOps P ops Q p a w → wpAny P .any ops Q p.length listed a w
 | [], _, _, _, hB, h => ⟨by simpa [forcedB] using hB, h⟩
 | k :: p, listed, a, w, hB, h => by
  simp only [forcedB, Bool.and_eq_true, beq_iff_eq] at hB
  refine ⟨fun h0 => (by rw [hB.1] at h0; cases h0), fun i hi => ?_⟩
  rw [hB.1] at hi
  obtain rfl : i = k := by simpa using hi
  rw [wpOps_cons] at h
  exact wpOp_mono (fun a w hh => wpAny_forced p _ a w hB.2 hh) h
def Part (ops : Array Oper) (p1 : List Nat) (listed : Array Bool) : Prop := listed.size = ops.size ∧ ∀ k, listed.getD k false = true → k ∈ p1
def listOf (n : Nat) (p : List Nat) : Array Bool := p.foldl (fun l i => l.setIfInBounds i true) (Array.replicate n false)
theorem listOf_size (n : Nat) (p : List Nat) : (listOf n p).size = n := by
 unfold listOf
 suffices ∀ (l : Array Bool), (p.foldl (fun l i => l.setIfInBounds i true) l).size = l.size by rw [this]; simp
 induction p with
 | nil => intro l; rfl
 | cons i p ih => intro l; rw [List.foldl_cons, ih]; simp
theorem foldl_get (p : List Nat) : ∀ (l : Array Bool) (k : Nat), (p.foldl (fun l i => l.setIfInBounds i true) l).getD k false = true ↔ (l.getD k false = true ∨ (k ∈ p ∧ k < l.size)) := by
 induction p with
 | nil => intro l k; simp
 | cons i p ih =>
  intro l k
  rw [List.foldl_cons, ih]
  by_cases h : i = k
  ·subst h
   by_cases hs : i < l.size <;> simp [hs]
  ·rw [getD_set_ne false h]
   simp [Ne.symm h]
theorem listed_eq {p1 : List Nat} {listed : Array Bool} (hp : Part ops p1 listed) (ha : allListed p1 listed = true) : listed = listOf ops.size p1 := by
 apply Array.ext
 ·rw [listOf_size, hp.1]
 ·intro k h1 h2
  have e1 : listed.getD k false = listed[k] := by simp [h1]
  have e2 : (listOf ops.size p1).getD k false = (listOf ops.size p1)[k] := by simp [h2]
  rw [← e1, ← e2, Bool.eq_iff_iff]
  unfold listOf
  rw [foldl_get]
  constructor
  ·intro h; exact .inr ⟨hp.2 k h, by simpa [hp.1] using h1⟩
  ·rintro (h | ⟨h, _⟩)
   ·simp [Array.getElem?_replicate] at h
    split at h <;> simp at h
   ·exact (List.all_eq_true.1 ha) k h
theorem wpAny_of_growP {p0 p1 p2 : List Nat} {Q' : Exit → Act → World → Prop} (hS : StableS S) (hC : StableC C) (hF : forcedB ops p2 (listOf ops.size p1) = true) (hcov : ∀ k, k < ops.size → k ∈ p1 ∨ k ∈ p2)
  (hdep : ∀ j ∈ p2, ∀ i ∈ p1, i ∈ p0 ∨ depB ops ops.size j i = true) : ∀ (fuel : Nat) (listed : Array Bool) (K : Known) (a : Act) (w : World),
  (∀ i ∈ p0, listed.getD i false = true) → Shut ops listed → Part ops p1 listed → StableK K → C w → allK K w → wpAnyP P ops C S p1 (wpOps P ops Q' p2) fuel listed K a → wpAny P .any ops Q' (p2.length + fuel) listed a w
 | 0, _, _, _, _, _, _, hp, _, hc, hk, h => by
  rw [listed_eq hp h.1]
  exact wpAny_forced _ _ _ _ hF (h.2 _ hc hk)
 | fuel + 1, listed, K, a, w, hz0, hsh, hp, hK, hc, hk, h => by
  by_cases ha : allListed p1 listed = true
  ·rw [listed_eq hp ha]
   exact wpAny_add _ (wpAny_forced _ _ _ _ hF (h.1 ha _ hc hk))
  ·have ha' : allListed p1 listed = false := by simpa using ha
   obtain ⟨i0, hi0, hn0⟩ : ∃ i ∈ p1, listed.getD i false = false := by
    have := ha
    simp only [allListed, List.all_eq_true] at this
    simpa using this
   have hno : ∀ i ∈ Region.ready .any ops listed, i ∈ p1 := fun i hi => by
    obtain ⟨_, o, ho, _⟩ := mem_ready.1 hi
    have hlt : i < ops.size := (Array.getElem?_eq_some_iff.1 ho).1
    rcases hcov i hlt with h | h
    ·exact h
    ·rcases hdep i h i0 hi0 with h1 | h1
     ·have := hz0 i0 h1
      rw [hn0] at this
      cases this
     ·have := depB_ready hsh hi h1
      rw [hn0] at this
      cases this
   have step : ∀ i ∈ Region.ready .any ops listed, wpOp P ops Q' i (wpAny P .any ops Q' (p2.length + fuel) (listed.setIfInBounds i true)) a w := fun i hi =>
    wpOp_of_gOp hS hC hK hc hk (fun K' a' w' hK' hc' hk' hn => wpAny_of_growP hS hC hF hcov hdep fuel _ K' a' w' (fun i hi => getD_set_true (hz0 i hi)) (hsh.set hi) ⟨by simpa using hp.1, fun k hkk => by
     rcases getD_set_cases hkk with rfl | hkk
     ·exact hno _ hi
     ·exact hp.2 k hkk⟩ hK' hc' hk' hn) ((h.2 ha').2 i hi (hno i hi))
   exact ⟨fun h0 => absurd h0 (h.2 ha').1, step⟩
theorem wpAnyP_same {p1 : List Nat} {Q : Act → World → Prop} : ∀ (fuel : Nat) (listed : Array Bool) (K K' : Known) (a : Act), SameK K K' → wpAnyP P ops C S p1 Q fuel listed K a → wpAnyP P ops C S p1 Q fuel listed K' a
 | 0, _, _, _, _, hk, h => ⟨h.1, fun w hc ha => h.2 w hc (hk.allK.2 ha)⟩
 | fuel + 1, _, _, _, _, hk, h => ⟨fun h0 w hc ha => h.1 h0 w hc (hk.allK.2 ha), fun h0 => ⟨(h.2 h0).1, fun i hi hip => gOp_same hk (fun K K' a hk' hn => wpAnyP_same fuel _ K K' a hk' hn) ((h.2 h0).2 i hi hip)⟩⟩
theorem wpAnyP_first {p1 : List Nat} {Q : Act → World → Prop} {i : Nat} {oi : Oper} (hi : ops[i]? = some oi) (hsel : ∀ (j : Nat) (o : Oper) cs b, ops[j]? = some o → o.op ≠ .select cs b) (hC : StableC C) (hS : StableS S) (hip : i ∈ p1)
  :
  ∀ (fuel : Nat) (listed : Array Bool) (K : Known) (a : Act), Shut ops listed → StableK K → Inh C K →
   (∀ j oj, ops[j]? = some oj → j ≠ i → listed.getD j true = false → (∀ e ∈ oj.after, Region.binds .any e = true → e.on ≠ i) → oi.apart ops oj = true) →
   i ∈ Region.ready .any ops listed →
   gOp P ops C S i (wpAnyP P ops C S p1 Q fuel (listed.setIfInBounds i true)) K a → wpAnyP P ops C S p1 Q (fuel + 1) listed K a := by
 have hnall : ∀ (listed : Array Bool) (j : Nat), j ∈ p1 → j ∈ Region.ready .any ops listed → allListed p1 listed = true → False := fun listed j hj hr ha => by
  have := (List.all_eq_true.1 ha) j hj
  rw [not_listed_of_ready hr] at this
  cases this
 intro fuel
 induction fuel with
 | zero =>
  intro listed K a hsh hK hinh _ hr H
  refine ⟨fun h => (hnall listed i hip hr h).elim, fun _ => ⟨fun h => (by rw [h] at hr; cases hr), fun j hj hjp => ?_⟩⟩
  by_cases hji : j = i
  ·subst hji; exact H
  ·obtain ⟨K', a', h0⟩ := gOp_inh hC hK hinh H
   exact (hnall _ j hjp (ready_mono hj hji) h0.1).elim
 | succ fuel ih =>
  intro listed K a hsh hK hinh hfree hr H
  refine ⟨fun h => (hnall listed i hip hr h).elim, fun _ => ⟨fun h => (by rw [h] at hr; cases hr), fun j hj hjp => ?_⟩⟩
  by_cases hji : j = i
  ·subst hji; exact H
  ·obtain ⟨hjun, oj, hoj, hall⟩ := mem_ready.1 hj
   have hnot : ∀ e ∈ oj.after, Region.binds .any e = true → e.on ≠ i := fun e he hb heq => by
    have h1 := hall e he hb
    rw [heq, not_listed_of_ready hr] at h1
    cases h1
   have hfa : allListed p1 (listed.setIfInBounds i true) = false := by
    cases h : allListed p1 (listed.setIfInBounds i true)
    ·rfl
    ·exact (hnall _ j hjp (ready_mono hj hji) h).elim
   have H' : gOp P ops C S i (fun K a => gOp P ops C S j (wpAnyP P ops C S p1 Q fuel ((listed.setIfInBounds i true).setIfInBounds j true)) K a) K a :=
    gOp_mono (fun K a h => (h.2 hfa).2 j (ready_mono hj hji) hjp) H
   have h2 := gOp_comm (N' := wpAnyP P ops C S p1 Q fuel ((listed.setIfInBounds j true).setIfInBounds i true)) hsh hi hoj (hfree j oj hoj hji hjun hnot) (fun cs b => hsel i oi cs b hi) (fun cs b => hsel j oj cs b hoj) hr hj
    (fun K K' a hk h => by rw [Array.setIfInBounds_comm _ _ hji]; exact wpAnyP_same fuel _ K K' a hk h) hC hK hinh H'
   have hfree' : ∀ k ok, ops[k]? = some ok → k ≠ i → (listed.setIfInBounds j true).getD k true = false →
     (∀ e ∈ ok.after, Region.binds .any e = true → e.on ≠ i) → oi.apart ops ok = true := fun k ok hk hki hun hno => by
    refine hfree k ok hk hki ?_ hno
    by_cases hjk : j = k
    ·subst hjk; exact hjun
    ·rw [getD_set_ne true hjk] at hun; exact hun
   exact gOp_mono (fun K' a' h3 => ih (listed.setIfInBounds j true) K' a' (hsh.set hj) h3.1 h3.2.1 hfree' (ready_mono hr (Ne.symm hji)) h3.2.2) (gOp_keep hS hK hinh h2)
def firstB (ops : Array Oper) : List Nat → Array Bool → Bool
 | [], _ => true
 | k :: p, listed => (Region.ready .any ops listed).contains k && Region.free .any ops listed k && firstB ops p (listed.setIfInBounds k true)
theorem wpAnyP_lex {p1 : List Nat} {Q : Act → World → Prop} (hs : Region.noSelect ops = true) (hC : StableC C) (hS : StableS S) : ∀ (p : List Nat) (listed : Array Bool) (K : Known) (a : Act), (∀ i ∈ p, i ∈ p1) → (∀ i ∈ p1, listed.getD i false = true ∨ i ∈ p) → Shut ops listed → listed.size = ops.size → StableK K → Inh C K →
  firstB ops p listed = true → wpGrowP P ops C S Q p K a → wpAnyP P ops C S p1 Q p.length listed K a
 | [], _, _, _, _, hall, _, _, _, _, _, h => ⟨List.all_eq_true.2 fun i hi => by simpa using hall i hi, h⟩
 | k :: p, listed, K, a, hsub, hall, hsh, hsz, hK, hinh, hB, h => by
  simp only [firstB, Bool.and_eq_true] at hB
  obtain ⟨⟨hr, hf⟩, hB'⟩ := hB
  have hr' : k ∈ Region.ready .any ops listed := by simpa using hr
  obtain ⟨_, o, h0, _⟩ := mem_ready.1 hr'
  have hk : k < listed.size := by rw [hsz]; exact (Array.getElem?_eq_some_iff.1 h0).1
  exact wpAnyP_first h0 (Region.noSelect_spec hs) hC hS (hsub k List.mem_cons_self) p.length listed K a hsh hK hinh (Region.free_spec h0 hf) hr'
   (gOp_mono (fun K' a' hk' => wpAnyP_lex hs hC hS p _ K' a' (fun i hi => hsub i (List.mem_cons_of_mem _ hi)) (fun i hi => by
    rcases hall i hi with h | h
    ·exact .inl (getD_set_true h)
    ·rcases List.mem_cons.1 h with rfl | h
     ·exact .inl (by simp [hk])
     ·exact .inr h) (hsh.set hr') (by simpa using hsz) hk'.1 hk'.2.1 hB' hk'.2.2) (gOp_keep hS hK hinh h))
def wpPure (P : Program) (ops : Array Oper) (Q : Act → Prop) : List Nat → Act → Prop
 | [], a => Q a
 | i :: rest, a => match ops[i]? with
  | none => False
  | some o => ∃ v, Yields P ops o v a ∧ wpPure P ops Q rest (a.put o.dst v)
theorem wpAny_pure {Q' : Exit → Act → World → Prop} {Q : Act → Prop} {w : World} (hs : Region.noSelect ops = true) (hnp : ∀ c a w, ¬ Q' (.panic c) a w) (n : Nat) : ∀ (p : List Nat) (listed : Array Bool) (a : Act), firstB ops p listed = true → wpPure P ops Q p a →
  (∀ a', Q a' → wpAny P .any ops Q' n (p.foldl (fun l i => l.setIfInBounds i true) listed) a' w) → wpAny P .any ops Q' (n + p.length) listed a w
 | [], _, _, _, h, hq => hq _ h
 | k :: p, listed, a, hB, h, hq => by
  simp only [firstB, Bool.and_eq_true] at hB
  obtain ⟨⟨hr, hf⟩, hB'⟩ := hB
  have hr' : k ∈ Region.ready .any ops listed := by simpa using hr
  obtain ⟨_, o, h0, _⟩ := mem_ready.1 hr'
  unfold wpPure at h
  simp only [h0] at h
  obtain ⟨v, hy, hn⟩ := h
  exact wpAny_first h0 (Region.noSelect_spec hs) (fun c a w h => (hnp c _ w h).elim) (n + p.length) listed a w (Region.free_spec h0 hf) hr' hy (wpAny_pure hs hnp n p _ _ hB' hn hq)
theorem Shut.fold : ∀ (p : List Nat) (listed : Array Bool), Shut ops listed → firstB ops p listed = true → Shut ops (p.foldl (fun l i => l.setIfInBounds i true) listed)
 | [], _, h, _ => h
 | k :: p, listed, h, hB => by
  simp only [firstB, Bool.and_eq_true] at hB
  exact Shut.fold p _ (h.set (by simpa using hB.1.1)) hB.2
def partB (l : List Oper) (p0 p1 p2 : List Nat) : Bool :=
 Region.noSelect l.toArray && firstB l.toArray p0 (Array.replicate l.toArray.size false) && firstB l.toArray p1 (listOf l.toArray.size p0) && forcedB l.toArray p2 (listOf l.toArray.size (p0 ++ p1)) &&
 ((List.range l.toArray.size).all fun k => p0.contains k || p1.contains k || p2.contains k) && (p2.all fun j => p1.all fun i => depB l.toArray l.toArray.size j i) && (p2.length + p1.length + p0.length == l.length) && (p0.all fun k => k < l.length)
def operOf (l : List Oper) (p : List Nat) : List Oper := p.filterMap fun k => l[k]?
theorem wpOps_of_list {l : List Oper} {Q : Exit → Act → World → Prop} : ∀ (p : List Nat), wpOps P l.toArray Q p = wpList P l.toArray Q (operOf l p)
 | [] => by funext a w; simp [wpOps, wpList, operOf]
 | k :: p => by
  funext a w
  cases h : l[k]? with
  | none => simp [wpOps, operOf, h, wpOps_of_list p]
  | some o => simp [wpOps, wpList, operOf, h, wpOps_of_list p]
theorem wp_region_parts (p0 p1 p2 : List Nat) (S : Spec) (C : World → Prop) {id : Nat} {Q : Exit → Act → World → Prop} {a : Act} {w : World} {l : List Oper} (hS : StableS S) (hC : StableC C) (hm : P.follows .mixedOrders = true)
  (hB : partB l p0 p1 p2 = true) (hw : C w.drew)
  (h : wpPure P l.toArray (wpGrowP P l.toArray C S (wpList P l.toArray (NoPanic Q) (operOf l p2)) p1 []) p0 a) : (Code.region id l.toArray true).wp P Q a w := by
 simp only [partB, Bool.and_eq_true] at hB
 obtain ⟨⟨⟨⟨⟨⟨⟨h1, h20⟩, h2⟩, h3⟩, h4⟩, h5⟩, h6⟩, h7⟩ := hB
 have hsh : Shut l.toArray (Array.replicate l.toArray.size false) := by
  intro j o _ hj
  by_cases hl : j < l.length <;> simp [Array.getD, hl] at hj
 have hsh0 : Shut l.toArray (listOf l.toArray.size p0) := Shut.fold p0 _ hsh h20
 have hcov : ∀ k, k < l.toArray.size → k ∈ p0 ++ p1 ∨ k ∈ p2 := fun k hk => by
  have := List.all_eq_true.1 h4 k (List.mem_range.2 hk)
  simp only [Bool.or_eq_true, List.contains_iff_mem] at this
  rcases this with (h | h) | h
  ·exact .inl (List.mem_append_left _ h)
  ·exact .inl (List.mem_append_right _ h)
  ·exact .inr h
 have hdep : ∀ j ∈ p2, ∀ i ∈ p1, depB l.toArray l.toArray.size j i = true := fun j hj i hi => List.all_eq_true.1 (List.all_eq_true.1 h5 j hj) i hi
 have hp0 : ∀ i ∈ p0, (listOf l.toArray.size p0).getD i false = true := fun i hi => by
  unfold listOf
  rw [foldl_get]
  exact .inr ⟨hi, by have := List.all_eq_true.1 h7 i hi; simpa using this⟩
 rw [← wpOps_of_list p2] at h
 have hK0 : StableK ([] : Known) := fun x hx => by cases hx
 have ha0 : ∀ w, allK ([] : Known) w := allK.nil
 have g := wpAny_pure (P := P) (Q' := NoPanic Q) (w := w.drew) h1 (fun _ _ _ h => h) (p2.length + p1.length) p0 (Array.replicate l.toArray.size false) a h20 h fun a' ha' => by
  have g1 := wpAnyP_lex (P := P) (p1 := p0 ++ p1) h1 hC hS p1 (listOf l.toArray.size p0) [] a' (fun i hi => List.mem_append_right _ hi)
   (fun i hi => by
    rcases List.mem_append.1 hi with h | h
    ·exact .inl (hp0 i h)
    ·exact .inr h) hsh0 (listOf_size _ _) hK0 ⟨w.drew, hw, ha0 _⟩ h2 ha'
  exact wpAny_of_growP (p0 := p0) hS hC h3 hcov (fun j hj i hi => by
   rcases List.mem_append.1 hi with h | h
   ·exact .inl h
   ·exact .inr (hdep j hj i h)) p1.length _ [] a' w.drew hp0 hsh0 ⟨listOf_size _ _, fun k hk => by
    have hk := (foldl_get p0 _ k).1 hk
    rcases hk with hk | ⟨hk, _⟩
    ·by_cases hl : k < l.length <;> simp [Array.getD, hl] at hk
    ·exact List.mem_append_left _ hk⟩ hK0 hw (ha0 _) g1
 rw [beq_iff_eq] at h6
 rw [h6] at g
 exact wp_region_noPanic (wp_region_any hm g)
theorem pure_run {Q : Act → Prop} {l : List Oper} {i : Nat} {o : Oper} {rest : List Nat} {a : Act} (ho : l[i]? = some o) (hw : Region.wanted o (yielded l.toArray a.tmps) = true)
  (h : ∃ v, (∀ w, (execOp a.eval o).run P w = .ok (.value v) w) ∧ wpPure P l.toArray Q rest (a.put o.dst v)) : wpPure P l.toArray Q (i :: rest) a := by
 obtain ⟨v, h1, h2⟩ := h
 unfold wpPure
 have ho' : l.toArray[i]? = some o := by simpa using ho
 simp only [ho']
 exact ⟨v, .inl ⟨hw, h1⟩, h2⟩
theorem pure_nil {Q : Act → Prop} {a : Act} (h : Q a) : wpPure P ops Q [] a := h
theorem growP_nil {Q : Act → World → Prop} {K : Known} {a : Act} (h : ∀ w, C w → allK K w → Q a w) : wpGrowP P ops C S Q [] K a := h
theorem growP_run {Q : Act → World → Prop} {l : List Oper} {i : Nat} {o : Oper} {rest : List Nat} {K : Known} {a : Act} (ho : l[i]? = some o) (hs : S i = none) (hw : Region.wanted o (yielded l.toArray a.tmps) = true)
  (h : ∃ v, (∀ w, C w → knownAt l.toArray K i w → (execOp a.eval o).run P w = .ok (.value v) w) ∧ wpGrowP P l.toArray C S Q rest K (a.put o.dst v)) : wpGrowP P l.toArray C S Q (i :: rest) K a := by
 show gOp _ _ _ _ _ _ _ _
 unfold gOp
 have ho' : l.toArray[i]? = some o := by simpa using ho
 simp only [ho', hw, if_true, hs]
 exact h
theorem growP_eff {Q : Act → World → Prop} {l : List Oper} {i : Nat} {o : Oper} {rest : List Nat} {K : Known} {a : Act} {A : Pred} (ho : l[i]? = some o) (hs : S i = some A) (hw : Region.wanted o (yielded l.toArray a.tmps) = true)
  (h1 : ∀ w, C w → knownAt l.toArray K i w → growAt P o a A w) (h : ∀ v n m, Inh C ((i, (n, m), A n m v) :: K) → wpGrowP P l.toArray C S Q rest ((i, (n, m), A n m v) :: K) (a.put o.dst v)) : wpGrowP P l.toArray C S Q (i :: rest) K a := by
 show gOp _ _ _ _ _ _ _ _
 unfold gOp
 have ho' : l.toArray[i]? = some o := by simpa using ho
 simp only [ho', hw, if_true, hs]
 exact ⟨h1, h⟩
end
end Go.Proofs.YtggkidnlmaindaaDoor.H
namespace Go.Proofs.YtggkidnlmaindaaDoor.H
open Go.RowKit
section
variable {P : Program} {ops : Array Oper} {C : World → Prop} {S : Spec}
def Then (P : Program) (ops : Array Oper) (p3 : List Nat) (Q : Exit → Act → World → Prop) : Exit → Act → World → Prop
 | .normal, a, w => wpPure P ops (fun a' => Q .normal a' w) p3 a
 | e, a, w => Q e a w
theorem Then.normal {p3 : List Nat} {Q : Exit → Act → World → Prop} {a : Act} {w : World} (h : wpPure P ops (fun a' => Q .normal a' w) p3 a) : Then P ops p3 Q .normal a w := h
theorem Oper.wp_exits {o : Oper} {a : Act} {w : World} {K K' : Act → World → Prop} {Q Q' : Exit → Act → World → Prop} (hQ : ∀ e a w, e ≠ .normal → Q e a w → Q' e a w) (h : ∀ a w, K a w → K' a w) (hh : o.wp P a w K Q) : o.wp P a w K' Q' := by
 unfold Oper.wp at *
 generalize (execOp a.eval o).run P w = r at *
 cases r with
 | ok n w' =>
  cases n <;> simp only [Oper.upon] at hh ⊢ <;>
   first
    | exact h _ _ hh
    | exact Calls.mono hh (fun e w'' he => by
      cases e with
      | returned v => exact h _ _ he
      | panicked c => exact hQ _ _ _ (by simp) he
      | outgrown => obtain ⟨a, w, he⟩ := he; exact ⟨a, w, hQ _ _ _ (by simp) he⟩)
    | exact Rows.mono hh (fun _ _ he => h _ _ he)
 | halt x w' => cases x <;> simp only [Oper.upon] at hh ⊢ <;> first | exact hh | exact hQ _ _ _ (by simp) hh
theorem wpOp_exits {i : Nat} {a : Act} {w : World} {K K' : Act → World → Prop} {Q Q' : Exit → Act → World → Prop} (hQ : ∀ e a w, e ≠ .normal → Q e a w → Q' e a w) (h : ∀ a w, K a w → K' a w) (hh : wpOp P ops Q i K a w) : wpOp P ops Q' i K' a w := by
 unfold wpOp at *
 split
 ·exact h _ _ (by simpa [*] using hh)
 ·rename_i o ho
  simp only [ho] at hh
  split
  ·rename_i hw
   simp only [hw, if_true] at hh
   exact hh.imp (Oper.wp_exits hQ h) fun ⟨h1, a, w, h2⟩ => ⟨h1, a, w, hQ _ _ _ (by simp) h2⟩
  ·rename_i hw; simp only [hw] at hh; exact h _ _ hh
def forcedTo (ops : Array Oper) : List Nat → Array Bool → Bool
 | [], _ => true
 | k :: p, listed => Region.ready .any ops listed == [k] && forcedTo ops p (listed.setIfInBounds k true)
theorem wpAny_then {Q : Exit → Act → World → Prop} {p3 : List Nat} (hs : Region.noSelect ops = true) (hnp : ∀ c a w, ¬ Q (.panic c) a w) : ∀ (p : List Nat) (listed : Array Bool) (a : Act) (w : World), forcedTo ops p listed = true → firstB ops p3 (p.foldl (fun l i => l.setIfInBounds i true) listed) = true →
  Region.ready .any ops (p3.foldl (fun l i => l.setIfInBounds i true) (p.foldl (fun l i => l.setIfInBounds i true) listed)) = [] → wpOps P ops (Then P ops p3 Q) p a w → wpAny P .any ops Q (p3.length + p.length) listed a w
 | [], listed, a, w, _, hB, hr, h => by
  have := wpAny_pure (P := P) (Q' := Q) (w := w) hs hnp 0 p3 listed a hB (Q := fun a' => Q .normal a' w) h fun a' ha' => ⟨hr, ha'⟩
  simpa using this
 | k :: p, listed, a, w, hF, hB, hr, h => by
  simp only [forcedTo, Bool.and_eq_true, beq_iff_eq] at hF
  refine ⟨fun h0 => (by rw [hF.1] at h0; cases h0), fun i hi => ?_⟩
  rw [hF.1] at hi
  obtain rfl : i = k := by simpa using hi
  rw [wpOps_cons] at h
  exact wpOp_exits (fun e a w he hq => by cases e <;> first | exact hq | exact (he rfl).elim) (fun a w hh => wpAny_then hs hnp p _ a w hF.2 hB hr hh) h
def isExtract (ops : Array Oper) (k : Nat) : Bool := match ops[k]? with
 | some o => match o.op with
  | .extract _ _ => true
  | _ => false
 | none => false
theorem extract_all {o : Oper} {a : Act} {v : Value} {w : World} {t : Operand} {n : Nat} (ho : o.op = .extract t n) (h : (execOp a.eval o).run P w = .ok (.value v) w) (w' : World) : (execOp a.eval o).run P w' = .ok (.value v) w' := by
 unfold execOp at h ⊢
 simp only [ho] at h ⊢
 generalize a.eval t = x at *
 cases x with
 | tuple vs =>
  cases hx : vs[n]? with
  | some u => simp [Instr.extract, hx] at h ⊢; exact h
  | none => simp [Instr.extract, hx, stuck] at h
 | _ => simp [Instr.extract, stuck] at h
theorem wpAny_of_growQ {p0 p1 p2 : List Nat} {k0 : Nat} {T : Act → World → Prop} {N : Nat} {Q' : Exit → Act → World → Prop} (hS : StableS S) (hC : StableC C) (hs : Region.noSelect ops = true) (hnp : ∀ c a w, ¬ Q' (.panic c) a w)
  (hT : ∀ a w, T a w → wpAny P .any ops Q' N (listOf ops.size p1) a w) (hcov : ∀ k, k < ops.size → k ∈ p1 ∨ k ∈ p2)
  (hk1 : S k0 = none) (hk2 : isExtract ops k0 = true) (hk3 : (Region.ready .any ops (listOf ops.size (p1.filter (· != k0)))).contains k0 = true) (hk4 : Region.free .any ops (listOf ops.size (p1.filter (· != k0))) k0 = true)
  (hdep : ∀ j ∈ p2, ∀ i ∈ p1, i ∈ p0 ∨ i = k0 ∨ depB ops ops.size j i = true) : ∀ (fuel : Nat) (listed : Array Bool) (K : Known) (a : Act) (w : World),
  (∀ i ∈ p0, listed.getD i false = true) → Shut ops listed → Part ops p1 listed → StableK K → C w → allK K w → wpAnyP P ops C S p1 T fuel listed K a → wpAny P .any ops Q' (N + fuel) listed a w
 | 0, _, _, _, _, _, _, hp, _, hc, hk, h => by
  rw [listed_eq hp h.1]
  exact hT _ _ (h.2 _ hc hk)
 | fuel + 1, listed, K, a, w, hz0, hsh, hp, hK, hc, hk, h => by
  by_cases ha : allListed p1 listed = true
  ·rw [listed_eq hp ha]
   exact wpAny_add _ (hT _ _ (h.1 ha _ hc hk))
  ·have ha' : allListed p1 listed = false := by simpa using ha
   by_cases hi0 : ∃ i ∈ p1, listed.getD i false = false ∧ i ≠ k0
   ·obtain ⟨i0, hi0, hn0, hne⟩ := hi0
    have hno : ∀ i ∈ Region.ready .any ops listed, i ∈ p1 := fun i hi => by
     obtain ⟨_, o, ho, _⟩ := mem_ready.1 hi
     have hlt : i < ops.size := (Array.getElem?_eq_some_iff.1 ho).1
     rcases hcov i hlt with h | h
     ·exact h
     ·rcases hdep i h i0 hi0 with h1 | h1 | h1
      ·have := hz0 i0 h1
       rw [hn0] at this
       cases this
      ·exact absurd h1 hne
      ·have := depB_ready hsh hi h1
       rw [hn0] at this
       cases this
    have step : ∀ i ∈ Region.ready .any ops listed, wpOp P ops Q' i (wpAny P .any ops Q' (N + fuel) (listed.setIfInBounds i true)) a w := fun i hi =>
     wpOp_of_gOp hS hC hK hc hk (fun K' a' w' hK' hc' hk' hn => wpAny_of_growQ hS hC hs hnp hT hcov hk1 hk2 hk3 hk4 hdep fuel _ K' a' w' (fun i hi => getD_set_true (hz0 i hi)) (hsh.set hi) ⟨by simpa using hp.1, fun k hkk => by
      rcases getD_set_cases hkk with rfl | hkk
      ·exact hno _ hi
      ·exact hp.2 k hkk⟩ hK' hc' hk' hn) ((h.2 ha').2 i hi (hno i hi))
    exact ⟨fun h0 => absurd h0 (h.2 ha').1, step⟩
   ·-- only the free one is left
    have hall : ∀ i ∈ p1, i ≠ k0 → listed.getD i false = true := fun i hi hne => by
     cases hg : listed.getD i false
     ·exact absurd ⟨i, hi, hg, hne⟩ hi0
     ·rfl
    obtain ⟨i1, hi1, hn1⟩ : ∃ i ∈ p1, listed.getD i false = false := by
     have := ha
     simp only [allListed, List.all_eq_true] at this
     simpa using this
    have hki : i1 = k0 := by
     by_cases e : i1 = k0
     ·exact e
     ·have := hall i1 hi1 e; rw [hn1] at this; cases this
    subst hki
    have hP : Part ops (p1.filter (· != i1)) listed := ⟨hp.1, fun k hkk => by
     rw [List.mem_filter]
     refine ⟨hp.2 k hkk, ?_⟩
     have : k ≠ i1 := fun e => by rw [e, hn1] at hkk; cases hkk
     simpa using this⟩
    have hA : allListed (p1.filter (· != i1)) listed = true := List.all_eq_true.2 fun i hi => by
     obtain ⟨h1, h2⟩ := List.mem_filter.1 hi
     exact hall i h1 (by simpa using h2)
    have hle := listed_eq hP hA
    have hrd : i1 ∈ Region.ready .any ops listed := by rw [hle]; simpa using hk3
    have hfree : Region.free .any ops listed i1 = true := by rw [hle]; exact hk4
    obtain ⟨_, o, ho, _⟩ := mem_ready.1 hrd
    have hsz : i1 < listed.size := by rw [hp.1]; exact (Array.getElem?_eq_some_iff.1 ho).1
    have hPn : Part ops p1 (listed.setIfInBounds i1 true) := ⟨by simpa using hp.1, fun k hkk => by
     rcases getD_set_cases hkk with rfl | hkk
     ·exact hi1
     ·exact hp.2 k hkk⟩
    have hAn : allListed p1 (listed.setIfInBounds i1 true) = true := List.all_eq_true.2 fun i hi => by
     by_cases e : i = i1
     ·subst e; simp [hsz]
     ·exact getD_set_true (hall i hi e)
    have hg := (h.2 ha').2 i1 hrd hi1
    have fin : ∀ (v : Value), Yields P ops o v a → wpAnyP P ops C S p1 T fuel (listed.setIfInBounds i1 true) K (a.put o.dst v) → wpAny P .any ops Q' (N + (fuel + 1)) listed a w := fun v hy hn => by
     have hTw : T (a.put o.dst v) w := by
      cases fuel with
      | zero => exact hn.2 w hc hk
      | succ f => exact hn.1 hAn w hc hk
     have h1 := hT _ _ hTw
     rw [← listed_eq hPn hAn] at h1
     have h2 := wpAny_first ho (Region.noSelect_spec hs) (fun c a w h => (hnp c _ w h).elim) N listed a w (Region.free_spec ho hfree) hrd hy h1
     have h3 := wpAny_add fuel h2
     rwa [show N + 1 + fuel = N + (fuel + 1) from by omega] at h3
    unfold gOp at hg
    simp only [ho] at hg
    by_cases hw : Region.wanted o (yielded ops a.tmps) = true
    ·simp only [hw, if_true, hk1] at hg
     obtain ⟨v, hv, hn⟩ := hg
     refine fin v (.inl ⟨hw, ?_⟩) hn
     have h0 := hv w hc hk.knownAt
     unfold isExtract at hk2
     simp only [ho] at hk2
     split at hk2
     ·rename_i t n hop
      exact extract_all hop h0
     ·cases hk2
    ·have hwf : Region.wanted o (yielded ops a.tmps) = false := by simpa using hw
     simp only [hwf] at hg
     exact fin undef (.inr ⟨hwf, rfl⟩) (by simpa using hg)
def partB4 (l : List Oper) (k0 : Nat) (p0 p1 p2 p3 : List Nat) : Bool :=
 Region.noSelect l.toArray && firstB l.toArray p0 (Array.replicate l.toArray.size false) && firstB l.toArray p1 (listOf l.toArray.size p0) && forcedTo l.toArray p2 (listOf l.toArray.size (p0 ++ p1)) &&
 firstB l.toArray p3 (p2.foldl (fun l i => l.setIfInBounds i true) (listOf l.toArray.size (p0 ++ p1))) && (Region.ready .any l.toArray (p3.foldl (fun l i => l.setIfInBounds i true) (p2.foldl (fun l i => l.setIfInBounds i true) (listOf l.toArray.size (p0 ++ p1))))).isEmpty &&
 ((List.range l.toArray.size).all fun k => p0.contains k || p1.contains k || (p2 ++ p3).contains k) && ((p2 ++ p3).all fun j => p1.all fun i => i == k0 || depB l.toArray l.toArray.size j i) && (p3.length + p2.length + p1.length + p0.length == l.length) && (p0.all fun k => k < l.length) &&
 (isExtract l.toArray k0 && (Region.ready .any l.toArray (listOf l.toArray.size ((p0 ++ p1).filter (· != k0)))).contains k0 && Region.free .any l.toArray (listOf l.toArray.size ((p0 ++ p1).filter (· != k0))) k0)
theorem wp_region_free (k0 : Nat) (p0 p1 p2 p3 : List Nat) (S : Spec) (C : World → Prop) {id : Nat} {Q : Exit → Act → World → Prop} {a : Act} {w : World} {l : List Oper} (hS : StableS S) (hC : StableC C) (hm : P.follows .mixedOrders = true)
  (hk1 : S k0 = none) (hB : partB4 l k0 p0 p1 p2 p3 = true) (hw : C w.drew)
  (h : wpPure P l.toArray (wpGrowP P l.toArray C S (wpList P l.toArray (Then P l.toArray p3 (NoPanic Q)) (operOf l p2)) p1 []) p0 a) : (Code.region id l.toArray true).wp P Q a w := by
 simp only [partB4, Bool.and_eq_true] at hB
 obtain ⟨⟨⟨⟨⟨⟨⟨⟨⟨⟨h1, h20⟩, h2⟩, h3⟩, h31⟩, h32⟩, h4⟩, h5⟩, h6⟩, h7⟩, ⟨h8, h9⟩, h10⟩ := hB
 have hsh : Shut l.toArray (Array.replicate l.toArray.size false) := by
  intro j o _ hj
  by_cases hl : j < l.length <;> simp [Array.getD, hl] at hj
 have hsh0 : Shut l.toArray (listOf l.toArray.size p0) := Shut.fold p0 _ hsh h20
 have hcov : ∀ k, k < l.toArray.size → k ∈ p0 ++ p1 ∨ k ∈ p2 ++ p3 := fun k hk => by
  have := List.all_eq_true.1 h4 k (List.mem_range.2 hk)
  simp only [Bool.or_eq_true, List.contains_iff_mem] at this
  rcases this with (h | h) | h
  ·exact .inl (List.mem_append_left _ h)
  ·exact .inl (List.mem_append_right _ h)
  ·exact .inr h
 have hdep : ∀ j ∈ p2 ++ p3, ∀ i ∈ p1, i = k0 ∨ depB l.toArray l.toArray.size j i = true := fun j hj i hi => by
  have := List.all_eq_true.1 (List.all_eq_true.1 h5 j hj) i hi
  simpa using this
 have hp0 : ∀ i ∈ p0, (listOf l.toArray.size p0).getD i false = true := fun i hi => by
  unfold listOf
  rw [foldl_get]
  exact .inr ⟨hi, by have := List.all_eq_true.1 h7 i hi; simpa using this⟩
 rw [← wpOps_of_list p2] at h
 have hK0 : StableK ([] : Known) := fun x hx => by cases hx
 have ha0 : ∀ w, allK ([] : Known) w := allK.nil
 have g := wpAny_pure (P := P) (Q' := NoPanic Q) (w := w.drew) h1 (fun _ _ _ h => h) (p3.length + p2.length + p1.length) p0 (Array.replicate l.toArray.size false) a h20 h fun a' ha' => by
  have g1 := wpAnyP_lex (P := P) (p1 := p0 ++ p1) h1 hC hS p1 (listOf l.toArray.size p0) [] a' (fun i hi => List.mem_append_right _ hi)
   (fun i hi => by
    rcases List.mem_append.1 hi with h | h
    ·exact .inl (hp0 i h)
    ·exact .inr h) hsh0 (listOf_size _ _) hK0 ⟨w.drew, hw, ha0 _⟩ h2 ha'
  exact wpAny_of_growQ (p0 := p0) hS hC h1 (fun _ _ _ h => h) (fun a w => wpAny_then h1 (fun _ _ _ h => h) p2 _ a w h3 h31 (by simpa using h32)) hcov hk1 h8 h9 h10 (fun j hj i hi => by
   rcases List.mem_append.1 hi with h | h
   ·exact .inl h
   ·exact .inr (hdep j hj i h)) p1.length _ [] a' w.drew hp0 hsh0 ⟨listOf_size _ _, fun k hk => by
    have hk := (foldl_get p0 _ k).1 hk
    rcases hk with hk | ⟨hk, _⟩
    ·by_cases hl : k < l.length <;> simp [Array.getD, hl] at hk
    ·exact List.mem_append_left _ hk⟩ hK0 hw (ha0 _) g1
 rw [beq_iff_eq] at h6
 rw [h6] at g
 exact wp_region_noPanic (wp_region_any hm g)
def sublistsN : List Nat → List (List Nat)
 | [] => [[]]
 | k :: l => sublistsN l ++ (sublistsN l).map (k :: ·)
theorem mem_sublistsN : ∀ {ks r : List Nat}, r.Sublist ks → r ∈ sublistsN ks
 | [], r, h => by simp [sublistsN, List.sublist_nil.1 h]
 | k :: l, r, h => by
  rw [sublistsN, List.mem_append, List.mem_map]
  cases h with
  | cons _ h => exact .inl (mem_sublistsN h)
  | cons_cons _ h => exact .inr ⟨_, mem_sublistsN h, rfl⟩
def freesB (ops : Array Oper) (p1 ks : List Nat) : Bool := (sublistsN ks).all fun r => r.all fun k =>
 isExtract ops k && (Region.ready .any ops (listOf ops.size (p1.filter fun k => !r.contains k))).contains k && Region.free .any ops (listOf ops.size (p1.filter fun k => !r.contains k)) k
theorem wpAny_of_growQs {p0 p1 p2 ks : List Nat} {T : Act → World → Prop} {N : Nat} {Q' : Exit → Act → World → Prop} (hS : StableS S) (hC : StableC C) (hs : Region.noSelect ops = true) (hnp : ∀ c a w, ¬ Q' (.panic c) a w)
  (hT : ∀ a w, T a w → wpAny P .any ops Q' N (listOf ops.size p1) a w) (hcov : ∀ k, k < ops.size → k ∈ p1 ∨ k ∈ p2)
  (hk1 : ∀ k ∈ ks, S k = none) (hk2 : freesB ops p1 ks = true)
  (hdep : ∀ j ∈ p2, ∀ i ∈ p1, i ∈ p0 ∨ i ∈ ks ∨ depB ops ops.size j i = true) : ∀ (fuel : Nat) (listed : Array Bool) (K : Known) (a : Act) (w : World),
  (∀ i ∈ p0, listed.getD i false = true) → Shut ops listed → Part ops p1 listed → StableK K → C w → allK K w → wpAnyP P ops C S p1 T fuel listed K a → wpAny P .any ops Q' (N + fuel) listed a w
 | 0, _, _, _, _, _, _, hp, _, hc, hk, h => by
  rw [listed_eq hp h.1]
  exact hT _ _ (h.2 _ hc hk)
 | fuel + 1, listed, K, a, w, hz0, hsh, hp, hK, hc, hk, h => by
  by_cases ha : allListed p1 listed = true
  ·rw [listed_eq hp ha]
   exact wpAny_add _ (hT _ _ (h.1 ha _ hc hk))
  ·have ha' : allListed p1 listed = false := by simpa using ha
   by_cases hi0 : ∃ i ∈ p1, listed.getD i false = false ∧ i ∉ ks
   ·obtain ⟨i0, hi0, hn0, hne⟩ := hi0
    have hno : ∀ i ∈ Region.ready .any ops listed, i ∈ p1 := fun i hi => by
     obtain ⟨_, o, ho, _⟩ := mem_ready.1 hi
     have hlt : i < ops.size := (Array.getElem?_eq_some_iff.1 ho).1
     rcases hcov i hlt with h | h
     ·exact h
     ·rcases hdep i h i0 hi0 with h1 | h1 | h1
      ·have := hz0 i0 h1
       rw [hn0] at this
       cases this
      ·exact absurd h1 hne
      ·have := depB_ready hsh hi h1
       rw [hn0] at this
       cases this
    have step : ∀ i ∈ Region.ready .any ops listed, wpOp P ops Q' i (wpAny P .any ops Q' (N + fuel) (listed.setIfInBounds i true)) a w := fun i hi =>
     wpOp_of_gOp hS hC hK hc hk (fun K' a' w' hK' hc' hk' hn => wpAny_of_growQs hS hC hs hnp hT hcov hk1 hk2 hdep fuel _ K' a' w' (fun i hi => getD_set_true (hz0 i hi)) (hsh.set hi) ⟨by simpa using hp.1, fun k hkk => by
      rcases getD_set_cases hkk with rfl | hkk
      ·exact hno _ hi
      ·exact hp.2 k hkk⟩ hK' hc' hk' hn) ((h.2 ha').2 i hi (hno i hi))
    exact ⟨fun h0 => absurd h0 (h.2 ha').1, step⟩
   ·-- only free ones are left
    have hall : ∀ i ∈ p1, i ∉ ks → listed.getD i false = true := fun i hi hne => by
     cases hg : listed.getD i false
     ·exact absurd ⟨i, hi, hg, hne⟩ hi0
     ·rfl
    obtain ⟨i1, hi1, hn1⟩ : ∃ i ∈ p1, listed.getD i false = false := by
     have := ha
     simp only [allListed, List.all_eq_true] at this
     simpa using this
    have hki : i1 ∈ ks := by
     by_cases e : i1 ∈ ks
     ·exact e
     ·have := hall i1 hi1 e; rw [hn1] at this; cases this
    have hP : Part ops (p1.filter fun k => !(ks.filter fun k => !listed.getD k false).contains k) listed := ⟨hp.1, fun k hkk => by
     rw [List.mem_filter]
     refine ⟨hp.2 k hkk, ?_⟩
     simp only [Bool.not_eq_true', List.contains_eq_mem, decide_eq_false_iff_not, List.mem_filter, not_and, Bool.not_eq_false']
     intro _; rw [hkk]; simp⟩
    have hA : allListed (p1.filter fun k => !(ks.filter fun k => !listed.getD k false).contains k) listed = true := List.all_eq_true.2 fun i hi => by
     obtain ⟨h1, h2⟩ := List.mem_filter.1 hi
     by_cases e : i ∈ ks
     ·simp only [Bool.not_eq_true', List.contains_eq_mem, decide_eq_false_iff_not, List.mem_filter, not_and, Bool.not_eq_false'] at h2
      have := h2 e
      simpa using this
     ·exact hall i h1 e
    have hle := listed_eq hP hA
    have hfr := List.all_eq_true.1 hk2 (ks.filter fun k => !listed.getD k false) (mem_sublistsN List.filter_sublist)
    have hfr := List.all_eq_true.1 hfr i1 (List.mem_filter.2 ⟨hki, by rw [hn1]; rfl⟩)
    simp only [Bool.and_eq_true] at hfr
    rw [← hle] at hfr
    obtain ⟨⟨hex, hrd⟩, hfree⟩ := hfr
    have hrd : i1 ∈ Region.ready .any ops listed := by simpa using hrd
    obtain ⟨_, o, ho, _⟩ := mem_ready.1 hrd
    have hg := (h.2 ha').2 i1 hrd hi1
    have fin : ∀ (v : Value), Yields P ops o v a → wpAnyP P ops C S p1 T fuel (listed.setIfInBounds i1 true) K (a.put o.dst v) → wpAny P .any ops Q' (N + (fuel + 1)) listed a w := fun v hy hn => by
     have h1 := wpAny_of_growQs hS hC hs hnp hT hcov hk1 hk2 hdep fuel (listed.setIfInBounds i1 true) K (a.put o.dst v) w (fun i hi => getD_set_true (hz0 i hi)) (hsh.set hrd) ⟨by simpa using hp.1, fun k hkk => by
      rcases getD_set_cases hkk with rfl | hkk
      ·exact hi1
      ·exact hp.2 k hkk⟩ hK hc hk hn
     exact wpAny_first ho (Region.noSelect_spec hs) (fun c a w h => (hnp c _ w h).elim) (N + fuel) listed a w (Region.free_spec ho hfree) hrd hy h1
    unfold gOp at hg
    simp only [ho] at hg
    by_cases hw : Region.wanted o (yielded ops a.tmps) = true
    ·simp only [hw, if_true, hk1 i1 hki] at hg
     obtain ⟨v, hv, hn⟩ := hg
     refine fin v (.inl ⟨hw, ?_⟩) hn
     have h0 := hv w hc hk.knownAt
     unfold isExtract at hex
     simp only [ho] at hex
     split at hex
     ·rename_i t n hop
      exact extract_all hop h0
     ·cases hex
    ·have hwf : Region.wanted o (yielded ops a.tmps) = false := by simpa using hw
     simp only [hwf] at hg
     exact fin undef (.inr ⟨hwf, rfl⟩) (by simpa using hg)
def partB5 (l : List Oper) (ks p0 p1 p2 p3 : List Nat) : Bool :=
 Region.noSelect l.toArray && firstB l.toArray p0 (Array.replicate l.toArray.size false) && firstB l.toArray p1 (listOf l.toArray.size p0) && forcedTo l.toArray p2 (listOf l.toArray.size (p0 ++ p1)) &&
 firstB l.toArray p3 (p2.foldl (fun l i => l.setIfInBounds i true) (listOf l.toArray.size (p0 ++ p1))) && (Region.ready .any l.toArray (p3.foldl (fun l i => l.setIfInBounds i true) (p2.foldl (fun l i => l.setIfInBounds i true) (listOf l.toArray.size (p0 ++ p1))))).isEmpty &&
 ((List.range l.toArray.size).all fun k => p0.contains k || p1.contains k || (p2 ++ p3).contains k) && ((p2 ++ p3).all fun j => p1.all fun i => ks.contains i || depB l.toArray l.toArray.size j i) && (p3.length + p2.length + p1.length + p0.length == l.length) && (p0.all fun k => k < l.length) &&
 freesB l.toArray (p0 ++ p1) ks
theorem wp_region_frees (ks p0 p1 p2 p3 : List Nat) (S : Spec) (C : World → Prop) {id : Nat} {Q : Exit → Act → World → Prop} {a : Act} {w : World} {l : List Oper} (hS : StableS S) (hC : StableC C) (hm : P.follows .mixedOrders = true)
  (hk1 : ∀ k ∈ ks, S k = none) (hB : partB5 l ks p0 p1 p2 p3 = true) (hw : C w.drew)
  (h : wpPure P l.toArray (wpGrowP P l.toArray C S (wpList P l.toArray (Then P l.toArray p3 (NoPanic Q)) (operOf l p2)) p1 []) p0 a) : (Code.region id l.toArray true).wp P Q a w := by
 simp only [partB5, Bool.and_eq_true] at hB
 obtain ⟨⟨⟨⟨⟨⟨⟨⟨⟨⟨h1, h20⟩, h2⟩, h3⟩, h31⟩, h32⟩, h4⟩, h5⟩, h6⟩, h7⟩, h8⟩ := hB
 have hsh : Shut l.toArray (Array.replicate l.toArray.size false) := by
  intro j o _ hj
  by_cases hl : j < l.length <;> simp [Array.getD, hl] at hj
 have hsh0 : Shut l.toArray (listOf l.toArray.size p0) := Shut.fold p0 _ hsh h20
 have hcov : ∀ k, k < l.toArray.size → k ∈ p0 ++ p1 ∨ k ∈ p2 ++ p3 := fun k hk => by
  have := List.all_eq_true.1 h4 k (List.mem_range.2 hk)
  simp only [Bool.or_eq_true, List.contains_iff_mem] at this
  rcases this with (h | h) | h
  ·exact .inl (List.mem_append_left _ h)
  ·exact .inl (List.mem_append_right _ h)
  ·exact .inr h
 have hdep : ∀ j ∈ p2 ++ p3, ∀ i ∈ p1, i ∈ ks ∨ depB l.toArray l.toArray.size j i = true := fun j hj i hi => by
  have := List.all_eq_true.1 (List.all_eq_true.1 h5 j hj) i hi
  simpa using this
 have hp0 : ∀ i ∈ p0, (listOf l.toArray.size p0).getD i false = true := fun i hi => by
  unfold listOf
  rw [foldl_get]
  exact .inr ⟨hi, by have := List.all_eq_true.1 h7 i hi; simpa using this⟩
 rw [← wpOps_of_list p2] at h
 have hK0 : StableK ([] : Known) := fun x hx => by cases hx
 have ha0 : ∀ w, allK ([] : Known) w := allK.nil
 have g := wpAny_pure (P := P) (Q' := NoPanic Q) (w := w.drew) h1 (fun _ _ _ h => h) (p3.length + p2.length + p1.length) p0 (Array.replicate l.toArray.size false) a h20 h fun a' ha' => by
  have g1 := wpAnyP_lex (P := P) (p1 := p0 ++ p1) h1 hC hS p1 (listOf l.toArray.size p0) [] a' (fun i hi => List.mem_append_right _ hi)
   (fun i hi => by
    rcases List.mem_append.1 hi with h | h
    ·exact .inl (hp0 i h)
    ·exact .inr h) hsh0 (listOf_size _ _) hK0 ⟨w.drew, hw, ha0 _⟩ h2 ha'
  exact wpAny_of_growQs (p0 := p0) hS hC h1 (fun _ _ _ h => h) (fun a w => wpAny_then h1 (fun _ _ _ h => h) p2 _ a w h3 h31 (by simpa using h32)) hcov hk1 h8 (fun j hj i hi => by
   rcases List.mem_append.1 hi with h | h
   ·exact .inl h
   ·exact .inr (hdep j hj i h)) p1.length _ [] a' w.drew hp0 hsh0 ⟨listOf_size _ _, fun k hk => by
    have hk := (foldl_get p0 _ k).1 hk
    rcases hk with hk | ⟨hk, _⟩
    ·by_cases hl : k < l.length <;> simp [Array.getD, hl] at hk
    ·exact List.mem_append_left _ hk⟩ hK0 hw (ha0 _) g1
 rw [beq_iff_eq] at h6
 rw [h6] at g
 exact wp_region_noPanic (wp_region_any hm g)
end
end Go.Proofs.YtggkidnlmaindaaDoor.H
