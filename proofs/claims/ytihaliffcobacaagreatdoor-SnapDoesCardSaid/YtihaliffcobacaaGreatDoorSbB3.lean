/- ConvS, Grow: laid together. -/
import Derived.Test.YtihaliffcobacaaGreatDoorSbB1
import Derived.Test.YtihaliffcobacaaGreatDoorSbB2
import Derived.Deep.Quiet
import Derived.Deep.QuietTactic
import Derived.Deep.RegionHeld3
import Derived.KernelRfl
set_option linter.unusedSimpArgs false
set_option linter.unusedVariables false
set_option maxHeartbeats 25600000
set_option maxRecDepth 20000
namespace Go.Proofs.YtihaliffcobacaaGreatDoor
open Go.RowKit
theorem convert_bytesS {w : World} {S : BS} {v : Value} {l : List UInt8} (h : BytesS w S v l) : (convert 46 9 v).run Tryz.prog w = .ok (.string (textOf l)) w := by
 obtain ⟨A, c, rfl, h1, h2⟩ := h.shape
 rcases Nat.eq_zero_or_pos l.length with h0 | h0
 ·have : l = [] := List.eq_nil_of_length_eq_zero h0
  subst this
  cases A with
  | none => exact run_convert_bytes_nil w _ _ Tryz.underlying46 Tryz.underlying5 0 c _ Tryz.underlying9
  | some a =>
   have hl : (loadCells a 0).run Tryz.prog w = .ok (([] : List Int).map (Value.int .u8)).toArray w := by
    have := run_loadCells_list (P := Tryz.prog) w a [] (fun j v hj => by simp at hj)
    simpa using this
   rw [List.length_nil, run_convert_bytes_string w _ _ _ _ 0 c Tryz.underlying46 Tryz.underlying5 Tryz.underlying9, run_bytesToString w _ 0 c [] hl]
   rfl
 ·obtain ⟨b, off, e, _, _, _⟩ := bytesS_at h h0
  subst e
  rw [run_convert_bytes_arg w _ _ Tryz.underlying46 Tryz.underlying5 b off l.length c (l.map fun c => (c.toNat : Int)) (by simp) (fun i hi => by
   obtain ⟨b', off', e', _, _, hc⟩ := bytesS_at h hi
   injection e' with e'; injection e' with e1 e2 _; subst e1 e2
   rw [hc]; simp [List.getD, hi, U8]) _ Tryz.underlying9, nums_text]
abbrev Spec := Nat → Option (Value → World → Prop)
abbrev Known := List (Nat × (World → Prop))
def depB (ops : Array Oper) : Nat → Nat → Nat → Bool
 | 0, _, _ => false
 | f + 1, j, i => match ops[j]? with
  | none => false
  | some o => o.after.any fun e => Region.binds .any e && (e.on == i || depB ops f e.on i)
def knownAt (ops : Array Oper) (K : Known) (j : Nat) (w : World) : Prop := ∀ x ∈ K, depB ops ops.size j x.1 = true → x.2 w
def allK (K : Known) (w : World) : Prop := ∀ x ∈ K, x.2 w
def Inh (C : World → Prop) (K : Known) : Prop := ∃ w, C w ∧ allK K w
def growUpon (P : Program) (A : Value → World → Prop) (w : World) : Result Next → Prop
 | .ok (.value v) w' => Ext w w' ∧ A v w'
 | .ok (.enter f args) w' => Ext w w' ∧ Calls P f args w' (fun e w'' => ∃ v, e = .returned v ∧ Ext w' w'' ∧ A v w'')
 | _ => False
def growAt (P : Program) (o : Oper) (a : Act) (A : Value → World → Prop) (w : World) : Prop := growUpon P A w ((execOp a.eval o).run P w)
section
variable (P : Program) (ops : Array Oper) (C : World → Prop) (S : Spec)
def gOp (i : Nat) (next : Known → Act → Prop) (K : Known) (a : Act) : Prop :=
 match ops[i]? with
 | none => next K a
 | some o => if Region.wanted o (yielded ops a.tmps) then
   match S i with
   | none => ∃ v, (∀ w, C w → knownAt ops K i w → (execOp a.eval o).run P w = .ok (.value v) w) ∧ next K (a.put o.dst v)
   | some A => (∀ w, C w → knownAt ops K i w → growAt P o a A w) ∧ ∀ v, Inh C ((i, A v) :: K) → next ((i, A v) :: K) (a.put o.dst v)
  else next K (a.put o.dst undef)
def wpGrow (Q : Act → World → Prop) : Nat → List Oper → Known → Act → Prop
 | _, [], K, a => ∀ w, C w → allK K w → Q a w
 | i, _ :: rest, K, a => gOp P ops C S i (wpGrow Q (i + 1) rest) K a
def wpAnyG (Q : Act → World → Prop) : Nat → Array Bool → Known → Act → Prop
 | 0, listed, K, a => Region.ready .any ops listed = [] ∧ ∀ w, C w → allK K w → Q a w
 | fuel + 1, listed, K, a =>
  (Region.ready .any ops listed = [] → ∀ w, C w → allK K w → Q a w) ∧
  ∀ i ∈ Region.ready .any ops listed, gOp P ops C S i (wpAnyG Q fuel (listed.setIfInBounds i true)) K a
end
section
variable {P : Program} {ops : Array Oper} {C : World → Prop} {S : Spec}
theorem gOp_mono {i : Nat} {next next' : Known → Act → Prop} {K : Known} {a : Act} (h : ∀ K a, next K a → next' K a) (hh : gOp P ops C S i next K a) : gOp P ops C S i next' K a := by
 unfold gOp at *
 split
 ·rename_i ho; simp only [ho] at hh; exact h _ _ hh
 ·rename_i o ho
  simp only [ho] at hh
  split
  ·rename_i hw
   simp only [hw, if_true] at hh
   split
   ·rename_i hs; simp only [hs] at hh; obtain ⟨v, h1, h2⟩ := hh; exact ⟨v, h1, h _ _ h2⟩
   ·rename_i A hs; simp only [hs] at hh; exact ⟨hh.1, fun v hc => h _ _ (hh.2 v hc)⟩
  ·rename_i hw; simp only [hw] at hh; exact h _ _ hh
def StableS (S : Spec) : Prop := ∀ i A, S i = some A → ∀ v w w', A v w → Ext w w' → A v w'
def StableK (K : Known) : Prop := ∀ x ∈ K, ∀ w w', x.2 w → Ext w w' → x.2 w'
def StableC (C : World → Prop) : Prop := ∀ w w', C w → Ext w w' → C w'
theorem allK.knownAt {K : Known} {w : World} {j : Nat} (h : allK K w) : knownAt ops K j w := fun x hx _ => h x hx
theorem allK.ext {K : Known} {w w' : World} (h : allK K w) (hS : StableK K) (he : Ext w w') : allK K w' := fun x hx => hS x hx w w' (h x hx) he
theorem StableK.cons {K : Known} (h : StableK K) (hS : StableS S) {i : Nat} {A : Value → World → Prop} (hi : S i = some A) (v : Value) : StableK ((i, A v) :: K) := by
 intro x hx w w' h1 he
 rcases List.mem_cons.1 hx with rfl | hx
 ·exact hS i A hi v w w' h1 he
 ·exact h x hx w w' h1 he
theorem wpOp_of_gOp {i : Nat} {a : Act} {K : Known} {next : Known → Act → Prop} {K' : Act → World → Prop} {Q' : Exit → Act → World → Prop} {w : World} (hS : StableS S) (hC : StableC C) (hK : StableK K)
  (hCw : C w) (hKw : allK K w) (h : ∀ K a w', StableK K → C w' → allK K w' → next K a → K' a w') (hh : gOp P ops C S i next K a) : wpOp P ops Q' i K' a w := by
 unfold gOp at hh
 unfold wpOp
 split
 ·rename_i ho; simp only [ho] at hh; exact h _ _ _ hK hCw hKw hh
 ·rename_i o ho
  simp only [ho] at hh
  split
  ·rename_i hw
   simp only [hw, if_true] at hh
   refine .inl ?_
   unfold Oper.wp
   split at hh
   ·obtain ⟨v, h1, h2⟩ := hh
    rw [h1 w hCw hKw.knownAt]
    exact h _ _ _ hK hCw hKw h2
   ·rename_i A hs
    have h1 := hh.1 w hCw hKw.knownAt
    unfold growAt at h1
    generalize (execOp a.eval o).run P w = r at *
    cases r with
    | ok n w' =>
     cases n <;> simp only [growUpon] at h1 <;> simp only [Oper.upon]
     case value v =>
      have hc := hC w w' hCw h1.1
      have hall : allK ((i, A v) :: K) w' := fun x hx => by
       rcases List.mem_cons.1 hx with rfl | hx
       ·exact h1.2
       ·exact hKw.ext hK h1.1 x hx
      exact h _ _ _ (hK.cons hS hs v) hc hall (hh.2 v ⟨w', hc, hall⟩)
     case enter f args =>
      obtain ⟨he, hcall⟩ := h1
      refine hcall.mono fun e w'' ⟨v, hv, he', hA⟩ => ?_
      subst hv
      have he'' := he.ext he'
      have hc := hC w w'' hCw he''
      have hall : allK ((i, A v) :: K) w'' := fun x hx => by
       rcases List.mem_cons.1 hx with rfl | hx
       ·exact hA
       ·exact hKw.ext hK he'' x hx
      exact h _ _ _ (hK.cons hS hs v) hc hall (hh.2 v ⟨w'', hc, hall⟩)
    | halt x w' => simp only [growUpon] at h1
  ·rename_i hw; simp only [hw] at hh; exact h _ _ _ hK hCw hKw hh
theorem wpAny_of_grow {Q : Act → World → Prop} {Q' : Exit → Act → World → Prop} (hS : StableS S) (hC : StableC C) (hQ : ∀ a w, Q a w → Q' .normal a w) : ∀ (fuel : Nat) (listed : Array Bool) (K : Known) (a : Act) (w : World),
  StableK K → C w → allK K w → wpAnyG P ops C S Q fuel listed K a → wpAny P .any ops Q' fuel listed a w
 | 0, _, _, _, _, _, hc, hk, h => ⟨h.1, hQ _ _ (h.2 _ hc hk)⟩
 | fuel + 1, _, _, _, _, hK, hc, hk, h => ⟨fun h0 => hQ _ _ (h.1 h0 _ hc hk), fun i hi => wpOp_of_gOp hS hC hK hc hk (fun K' a' w' hK' hc' hk' hn => wpAny_of_grow hS hC hQ fuel _ K' a' w' hK' hc' hk' hn) (h.2 i hi)⟩
def Shut (ops : Array Oper) (listed : Array Bool) : Prop :=
 ∀ j o, ops[j]? = some o → listed.getD j false = true → ∀ e ∈ o.after, Region.binds .any e = true → listed.getD e.on false = true
theorem getD_set_cases {listed : Array Bool} {i j : Nat} (h : (listed.setIfInBounds i true).getD j false = true) : j = i ∨ listed.getD j false = true := by
 by_cases e : i = j
 ·exact .inl e.symm
 ·rw [getD_set_ne false e] at h; exact .inr h
theorem Shut.set {listed : Array Bool} (h : Shut ops listed) {i : Nat} (hi : i ∈ Region.ready .any ops listed) : Shut ops (listed.setIfInBounds i true) := by
 intro j o ho hj e he hb
 rcases getD_set_cases hj with rfl | hj
 ·obtain ⟨_, o', ho', hall⟩ := mem_ready.1 hi
  rw [ho] at ho'
  obtain rfl := Option.some.inj ho'
  exact getD_set_true (hall e he hb)
 ·exact getD_set_true (h j o ho hj e he hb)
theorem depB_listed {listed : Array Bool} (h : Shut ops listed) : ∀ (f j i : Nat), listed.getD j false = true → depB ops f j i = true → listed.getD i false = true
 | 0, _, _, _, h0 => by simp [depB] at h0
 | f + 1, j, i, hj, h0 => by
  unfold depB at h0
  split at h0
  ·cases h0
  ·rename_i o ho
   obtain ⟨k, hk, hb⟩ := Array.any_eq_true.1 h0
   simp only [Bool.and_eq_true, Bool.or_eq_true, beq_iff_eq] at hb
   have hl := h j o ho hj _ (Array.getElem_mem hk) hb.1
   rcases hb.2 with rfl | hd
   ·exact hl
   ·exact depB_listed h f _ i hl hd
theorem depB_ready {listed : Array Bool} (h : Shut ops listed) {f j i : Nat} (hj : j ∈ Region.ready .any ops listed) (h0 : depB ops f j i = true) : listed.getD i false = true := by
 cases f with
 | zero => simp [depB] at h0
 | succ f =>
  obtain ⟨_, o, ho, hall⟩ := mem_ready.1 hj
  unfold depB at h0
  simp only [ho] at h0
  obtain ⟨k, hk, hb⟩ := Array.any_eq_true.1 h0
  simp only [Bool.and_eq_true, Bool.or_eq_true, beq_iff_eq] at hb
  have hl := hall _ (Array.getElem_mem hk) hb.1
  rcases hb.2 with rfl | hd
  ·exact hl
  ·exact depB_listed h f _ i hl hd
theorem not_listed_of_ready {listed : Array Bool} {j : Nat} (hj : j ∈ Region.ready .any ops listed) : listed.getD j false = false := by
 have h0 := (mem_ready.1 hj).1
 rcases Nat.lt_or_ge j listed.size with h' | h'
 ·simp [h'] at h0 ⊢; exact h0
 ·simp [Array.getElem?_eq_none h']
theorem knownAt_cons {listed : Array Bool} (h : Shut ops listed) {i j : Nat} (hi : i ∈ Region.ready .any ops listed) (hj : j ∈ Region.ready .any ops listed) {K : Known} {F : World → Prop} {w : World} :
  knownAt ops ((i, F) :: K) j w ↔ knownAt ops K j w := by
 constructor
 ·exact fun hk x hx => hk x (List.mem_cons_of_mem _ hx)
 ·intro hk x hx hd
  rcases List.mem_cons.1 hx with rfl | hx
  ·have := depB_ready h hj hd
   rw [not_listed_of_ready hi] at this
   cases this
  ·exact hk x hx hd
def SameK (K K' : Known) : Prop := ∀ x, x ∈ K ↔ x ∈ K'
theorem SameK.allK {K K' : Known} (h : SameK K K') {w : World} : allK K w ↔ allK K' w := ⟨fun hk x hx => hk x ((h x).2 hx), fun hk x hx => hk x ((h x).1 hx)⟩
theorem SameK.knownAt {K K' : Known} (h : SameK K K') {j : Nat} {w : World} : knownAt ops K j w ↔ knownAt ops K' j w := ⟨fun hk x hx => hk x ((h x).2 hx), fun hk x hx => hk x ((h x).1 hx)⟩
theorem SameK.cons {K K' : Known} (h : SameK K K') (y : Nat × (World → Prop)) : SameK (y :: K) (y :: K') := fun x => by simp only [List.mem_cons, h x]
theorem SameK.swap (x y : Nat × (World → Prop)) (K : Known) : SameK (x :: y :: K) (y :: x :: K) := fun z => by
 simp only [List.mem_cons]
 exact ⟨fun h => by rcases h with h | h | h <;> simp [h], fun h => by rcases h with h | h | h <;> simp [h]⟩
theorem gOp_same {i : Nat} {next next' : Known → Act → Prop} {K K' : Known} {a : Act} (hk : SameK K K') (h : ∀ K K' a, SameK K K' → next K a → next' K' a) (hh : gOp P ops C S i next K a) : gOp P ops C S i next' K' a := by
 unfold gOp at *
 split
 ·rename_i ho; simp only [ho] at hh; exact h _ _ _ hk hh
 ·rename_i o ho
  simp only [ho] at hh
  split
  ·rename_i hw
   simp only [hw, if_true] at hh
   split
   ·rename_i hs; simp only [hs] at hh; obtain ⟨v, h1, h2⟩ := hh; exact ⟨v, fun w hc hka => h1 w hc (hk.knownAt.2 hka), h _ _ _ hk h2⟩
   ·rename_i A hs; simp only [hs] at hh; exact ⟨fun w hc hka => hh.1 w hc (hk.knownAt.2 hka), fun v ⟨w, hc, ha⟩ => h _ _ _ (hk.cons _) (hh.2 v ⟨w, hc, (hk.cons _).allK.2 ha⟩)⟩
  ·rename_i hw; simp only [hw] at hh; exact h _ _ _ hk hh
theorem wpAnyG_same {Q : Act → World → Prop} : ∀ (fuel : Nat) (listed : Array Bool) (K K' : Known) (a : Act), SameK K K' → wpAnyG P ops C S Q fuel listed K a → wpAnyG P ops C S Q fuel listed K' a
 | 0, _, _, _, _, hk, h => ⟨h.1, fun w hc ha => h.2 w hc (hk.allK.2 ha)⟩
 | fuel + 1, _, _, _, _, hk, h => ⟨fun h0 w hc ha => h.1 h0 w hc (hk.allK.2 ha), fun i hi => gOp_same hk (fun K K' a hk' hn => wpAnyG_same fuel _ K K' a hk' hn) (h.2 i hi)⟩
theorem gOp_put {j : Nat} {oi oj : Oper} (hj : ops[j]? = some oj) (hap : oi.apart ops oj = true) (hsj : ∀ cs b, oj.op ≠ .select cs b) {next : Known → Act → Prop} {K : Known} {a : Act} {v : Value}
  (h : gOp P ops C S j next K (a.put oi.dst v)) : gOp P ops C S j (fun K' a' => next K' (a'.put oi.dst v)) K a := by
 obtain ⟨h1, h2, _⟩ := Oper.apart_spec hap
 unfold gOp at *
 simp only [hj] at *
 rw [wanted_put oj a oi.dst v h1] at h
 have hx : execOp (a.put oi.dst v).eval oj = execOp a.eval oj := execOp_put oj hsj a oi.dst v h1
 split
 ·rename_i hw
  simp only [hw, if_true] at h
  split
  ·rename_i hs
   simp only [hs] at h
   obtain ⟨u, hu, hn⟩ := h
   exact ⟨u, fun w hc hk => by rw [← hx]; exact hu w hc hk, by rw [← Act.put_comm a v u h2]; exact hn⟩
  ·rename_i A hs
   simp only [hs] at h
   refine ⟨fun w hc hk => ?_, fun u hc => by rw [← Act.put_comm a v u h2]; exact h.2 u hc⟩
   have := h.1 w hc hk
   unfold growAt at *
   rwa [hx] at this
 ·rename_i hw
  simp only [hw] at h
  rw [← Act.put_comm a v undef h2]; exact h
theorem growAt_val {o : Oper} {a : Act} {A : Value → World → Prop} {w : World} (hC : StableC C) (hc : C w) (h1 : growAt P o a A w) : ∃ v w1, C w1 ∧ Ext w w1 ∧ A v w1 := by
 unfold growAt at h1
 generalize (execOp a.eval _).run P w = r at *
 cases r with
 | ok n w' =>
  cases n <;> simp only [growUpon] at h1
  case value v => exact ⟨v, w', hC _ _ hc h1.1, h1.1, h1.2⟩
  case enter f args =>
   obtain ⟨he, hcall⟩ := h1
   obtain ⟨e, w'', fr, ⟨v, _, he', hA⟩, _⟩ := hcall []
   exact ⟨v, w'', hC _ _ hc (he.ext he'), he.ext he', hA⟩
 | halt x w' => simp only [growUpon] at h1
theorem growAt_inh {i : Nat} {o : Oper} {a : Act} {A : Value → World → Prop} {w : World} {K : Known} (hC : StableC C) (hK : StableK K) (hc : C w) (hk : allK K w) (h1 : growAt P o a A w) : ∃ v, Inh C ((i, A v) :: K) := by
 obtain ⟨v, w1, h2, h3, h4⟩ := growAt_val hC hc h1
 exact ⟨v, w1, h2, fun x hx => by
  rcases List.mem_cons.1 hx with rfl | hx
  ·exact h4
  ·exact hk.ext hK h3 x hx⟩
theorem gOp_inh {i : Nat} {next : Known → Act → Prop} {K : Known} {a : Act} (hC : StableC C) (hK : StableK K) (hi : Inh C K) (hh : gOp P ops C S i next K a) : ∃ K' a', next K' a' := by
 obtain ⟨w, hc, hk⟩ := hi
 unfold gOp at hh
 split at hh
 ·exact ⟨_, _, hh⟩
 ·split at hh
  ·split at hh
   ·obtain ⟨v, _, h2⟩ := hh; exact ⟨_, _, h2⟩
   ·obtain ⟨v, hv⟩ := growAt_inh (i := i) hC hK hc hk (hh.1 w hc hk.knownAt)
    exact ⟨_, _, hh.2 v hv⟩
  ·exact ⟨_, _, hh⟩
theorem gOp_comm {listed : Array Bool} (hsh : Shut ops listed) {i j : Nat} {oi oj : Oper} (hi : ops[i]? = some oi) (hj : ops[j]? = some oj) (hap : oi.apart ops oj = true)
  (hsi : ∀ cs b, oi.op ≠ .select cs b) (hsj : ∀ cs b, oj.op ≠ .select cs b) (hri : i ∈ Region.ready .any ops listed) (hrj : j ∈ Region.ready .any ops listed)
  {N N' : Known → Act → Prop} (hN : ∀ K K' a, SameK K K' → N K a → N' K' a) {K : Known} {a : Act} (hC : StableC C) (hK : StableK K) (hinh : Inh C K)
  (h : gOp P ops C S i (fun K a => gOp P ops C S j N K a) K a) : gOp P ops C S j (fun K a => gOp P ops C S i N' K a) K a := by
 obtain ⟨_, _, h3⟩ := Oper.apart_spec hap
 have hwi : ∀ a u, Region.wanted oi (yielded ops (Act.put a oj.dst u).tmps) = Region.wanted oi (yielded ops a.tmps) := fun a u => wanted_put oi a oj.dst u h3
 have hxi : ∀ a u, execOp (Act.put a oj.dst u).eval oi = execOp a.eval oi := fun a u => execOp_put oi hsi a oj.dst u h3
 conv at h => unfold gOp
 simp only [hi] at h
 by_cases hw : Region.wanted oi (yielded ops a.tmps) = true
 ·simp only [hw, if_true] at h
  cases hs : S i with
  | none =>
   simp only [hs] at h
   obtain ⟨v, hv, hn⟩ := h
   have hn' := gOp_put hj hap hsj hn
   unfold gOp at hn' ⊢
   simp only [hj] at hn' ⊢
   split
   ·rename_i hwj
    simp only [hwj, if_true] at hn'
    split
    ·rename_i hsj'
     simp only [hsj'] at hn'
     obtain ⟨u, hu, hm⟩ := hn'
     refine ⟨u, hu, ?_⟩
     simp only [hi, hwi, hw, if_true, hs, hxi]
     exact ⟨v, hv, hN _ _ _ (fun _ => Iff.rfl) hm⟩
    ·rename_i A hsj'
     simp only [hsj'] at hn'
     refine ⟨hn'.1, fun u hc => ?_⟩
     simp only [hi, hwi, hw, if_true, hs, hxi]
     exact ⟨v, fun w hc hk => hv w hc ((knownAt_cons hsh hrj hri).1 hk), hN _ _ _ (fun _ => Iff.rfl) (hn'.2 u hc)⟩
   ·rename_i hwj
    simp only [hwj] at hn'
    simp only [hi, hwi, hw, if_true, hs, hxi]
    exact ⟨v, hv, hN _ _ _ (fun _ => Iff.rfl) hn'⟩
  | some Ai =>
   simp only [hs] at h
   obtain ⟨hg, hn⟩ := h
   have hn' := fun v hc => gOp_put hj hap hsj (hn v hc)
   obtain ⟨w0, hc0, hk0⟩ := hinh
   obtain ⟨v0, hv0⟩ := growAt_inh (i := i) hC hK hc0 hk0 (hg w0 hc0 hk0.knownAt)
   have h0 := hn' v0 hv0
   have back : ∀ K' u, (∀ w, C w → knownAt ops K' i w → knownAt ops K i w) → (∀ v, Inh C ((i, Ai v) :: K') → N' ((i, Ai v) :: K') ((a.put oj.dst u).put oi.dst v)) → gOp P ops C S i N' K' (a.put oj.dst u) := by
    intro K' u hkn hall
    unfold gOp
    simp only [hi, hwi, hw, if_true, hs]
    refine ⟨fun w hc hk => ?_, hall⟩
    have := hg w hc (hkn w hc hk)
    unfold growAt at *
    rwa [hxi]
   unfold gOp at h0
   conv => unfold gOp
   simp only [hj] at h0 ⊢
   split
   ·rename_i hwj
    simp only [hwj, if_true] at h0
    split
    ·rename_i hsj'
     simp only [hsj'] at h0
     obtain ⟨u, hu, _⟩ := h0
     refine ⟨u, fun w hc hk => hu w hc ((knownAt_cons hsh hri hrj).2 hk), back K u (fun _ _ h => h) fun v hc => ?_⟩
     have hm := hn' v hc
     unfold gOp at hm
     simp only [hj, hwj, if_true, hsj'] at hm
     obtain ⟨u', hu', hm⟩ := hm
     have e1 := hu w0 hc0 ((knownAt_cons hsh hri hrj).2 hk0.knownAt)
     have e2 := hu' w0 hc0 ((knownAt_cons hsh hri hrj).2 hk0.knownAt)
     rw [e1] at e2
     injection e2 with e2 _
     injection e2 with e2
     subst e2
     exact hN _ _ _ (fun _ => Iff.rfl) hm
    ·rename_i A hsj'
     simp only [hsj'] at h0
     refine ⟨fun w hc hk => h0.1 w hc ((knownAt_cons hsh hri hrj).2 hk), fun u _ => back _ u (fun w _ hk => (knownAt_cons hsh hrj hri).1 hk) fun v ⟨w1, hc1, ha1⟩ => ?_⟩
     have hm := hn' v ⟨w1, hc1, fun x hx => ha1 x (by
      rcases List.mem_cons.1 hx with rfl | hx
      ·exact List.mem_cons_self
      ·exact List.mem_cons_of_mem _ (List.mem_cons_of_mem _ hx))⟩
     unfold gOp at hm
     simp only [hj, hwj, if_true, hsj'] at hm
     exact hN _ _ _ (SameK.swap _ _ _) (hm.2 u ⟨w1, hc1, (SameK.swap _ _ _).allK.1 ha1⟩)
   ·rename_i hwj
    refine back K undef (fun _ _ h => h) fun v hc => ?_
    have hm := hn' v hc
    unfold gOp at hm
    simp only [hj, hwj] at hm
    exact hN _ _ _ (fun _ => Iff.rfl) hm
 ·simp only [hw] at h
  have hn' := gOp_put hj hap hsj h
  refine gOp_mono (fun K' a' hm => ?_) (a := a) (K := K) (i := j) (next := fun K' a' => Region.wanted oi (yielded ops a'.tmps) = false ∧ N K' (a'.put oi.dst undef)) ?_
  ·unfold gOp
   simp only [hi, hm.1]
   exact hN _ _ _ (fun _ => Iff.rfl) hm.2
  ·have hwf : Region.wanted oi (yielded ops a.tmps) = false := by simpa using hw
   unfold gOp at hn' ⊢
   simp only [hj] at hn' ⊢
   split
   ·rename_i hwj
    simp only [hwj, if_true] at hn'
    split
    ·rename_i hsj'
     simp only [hsj'] at hn'
     obtain ⟨u, hu, hm⟩ := hn'
     exact ⟨u, hu, by rw [hwi]; exact hwf, hm⟩
    ·rename_i A hsj'
     simp only [hsj'] at hn'
     exact ⟨hn'.1, fun u hc => ⟨by rw [hwi]; exact hwf, hn'.2 u hc⟩⟩
   ·rename_i hwj
    simp only [hwj] at hn'
    exact ⟨by rw [hwi]; exact hwf, hn'⟩
theorem gOp_keep {i : Nat} {next : Known → Act → Prop} {K : Known} {a : Act} (hS : StableS S) (hK : StableK K) (hi : Inh C K) (hh : gOp P ops C S i next K a) :
  gOp P ops C S i (fun K' a' => StableK K' ∧ Inh C K' ∧ next K' a') K a := by
 unfold gOp at *
 split
 ·rename_i ho; simp only [ho] at hh; exact ⟨hK, hi, hh⟩
 ·rename_i o ho
  simp only [ho] at hh
  split
  ·rename_i hw
   simp only [hw, if_true] at hh
   split
   ·rename_i hs; simp only [hs] at hh; obtain ⟨v, h1, h2⟩ := hh; exact ⟨v, h1, hK, hi, h2⟩
   ·rename_i A hs; simp only [hs] at hh; exact ⟨hh.1, fun v hc => ⟨hK.cons hS hs v, hc, hh.2 v hc⟩⟩
  ·rename_i hw; simp only [hw] at hh; exact ⟨hK, hi, hh⟩
theorem wpAnyG_first {Q : Act → World → Prop} {i : Nat} {oi : Oper} (hi : ops[i]? = some oi) (hsel : ∀ (j : Nat) (o : Oper) cs b, ops[j]? = some o → o.op ≠ .select cs b) (hC : StableC C) (hS : StableS S) :
  ∀ (fuel : Nat) (listed : Array Bool) (K : Known) (a : Act), Shut ops listed → StableK K → Inh C K →
   (∀ j oj, ops[j]? = some oj → j ≠ i → listed.getD j true = false → (∀ e ∈ oj.after, Region.binds .any e = true → e.on ≠ i) → oi.apart ops oj = true) →
   i ∈ Region.ready .any ops listed →
   gOp P ops C S i (wpAnyG P ops C S Q fuel (listed.setIfInBounds i true)) K a → wpAnyG P ops C S Q (fuel + 1) listed K a := by
 intro fuel
 induction fuel with
 | zero =>
  intro listed K a _ hK hinh _ hr H
  refine ⟨fun h => (by rw [h] at hr; cases hr), fun j hj => ?_⟩
  by_cases hji : j = i
  ·subst hji; exact H
  ·obtain ⟨K', a', h0⟩ := gOp_inh hC hK hinh H
   have := ready_mono hj hji
   rw [h0.1] at this
   cases this
 | succ fuel ih =>
  intro listed K a hsh hK hinh hfree hr H
  refine ⟨fun h => (by rw [h] at hr; cases hr), fun j hj => ?_⟩
  by_cases hji : j = i
  ·subst hji; exact H
  ·obtain ⟨hjun, oj, hoj, hall⟩ := mem_ready.1 hj
   have hnot : ∀ e ∈ oj.after, Region.binds .any e = true → e.on ≠ i := fun e he hb heq => by
    have h1 := hall e he hb
    rw [heq, not_listed_of_ready hr] at h1
    cases h1
   have H' : gOp P ops C S i (fun K a => gOp P ops C S j (wpAnyG P ops C S Q fuel ((listed.setIfInBounds i true).setIfInBounds j true)) K a) K a :=
    gOp_mono (fun K a h => h.2 j (ready_mono hj hji)) H
   have h2 := gOp_comm (N' := wpAnyG P ops C S Q fuel ((listed.setIfInBounds j true).setIfInBounds i true)) hsh hi hoj (hfree j oj hoj hji hjun hnot) (fun cs b => hsel i oi cs b hi) (fun cs b => hsel j oj cs b hoj) hr hj
    (fun K K' a hk h => by rw [Array.setIfInBounds_comm _ _ hji]; exact wpAnyG_same fuel _ K K' a hk h) hC hK hinh H'
   have hfree' : ∀ k ok, ops[k]? = some ok → k ≠ i → (listed.setIfInBounds j true).getD k true = false →
     (∀ e ∈ ok.after, Region.binds .any e = true → e.on ≠ i) → oi.apart ops ok = true := fun k ok hk hki hun hno => by
    refine hfree k ok hk hki ?_ hno
    by_cases hjk : j = k
    ·subst hjk; exact hjun
    ·rw [getD_set_ne true hjk] at hun; exact hun
   exact gOp_mono (fun K' a' h3 => ih (listed.setIfInBounds j true) K' a' (hsh.set hj) h3.1 h3.2.1 hfree' (ready_mono hr (Ne.symm hji)) h3.2.2) (gOp_keep hS hK hinh h2)
theorem wpAnyG_lex {Q : Act → World → Prop} (hs : Region.noSelect ops = true) (hC : StableC C) (hS : StableS S) : ∀ (l : List Oper) (k : Nat) (listed : Array Bool) (K : Known) (a : Act), Shut ops listed → StableK K → Inh C K → (∀ j, l[j]? = ops[k + j]?) →
  Region.lexFrom .any ops l.length k listed = true → wpGrow P ops C S Q k l K a → wpAnyG P ops C S Q l.length listed K a
 | [], _, _, _, _, _, _, _, _, hB, h => ⟨by simpa [Region.lexFrom] using hB, h⟩
 | o :: l, k, listed, K, a, hsh, hK, hinh, hl, hB, h => by
  have h0 : ops[k]? = some o := by simpa using (hl 0).symm
  simp only [List.length_cons, Region.lexFrom, Bool.and_eq_true] at hB
  obtain ⟨⟨hr, hf⟩, hB'⟩ := hB
  have hr' : k ∈ Region.ready .any ops listed := by simpa using hr
  exact wpAnyG_first h0 (Region.noSelect_spec hs) hC hS l.length listed K a hsh hK hinh (Region.free_spec h0 hf) hr'
   (gOp_mono (fun K' a' hk => wpAnyG_lex hs hC hS l (k + 1) _ K' a' (hsh.set hr') hk.1 hk.2.1 (fun j => by have := hl (j + 1); simpa [Nat.add_assoc, Nat.add_comm 1 j] using this) hB' hk.2.2) (gOp_keep hS hK hinh h))
theorem any_grow (S : Spec) (C : World → Prop) {Q : Exit → Act → World → Prop} {a : Act} {w : World} {l : List Oper} (hS : StableS S) (hC : StableC C)
  (hB : Region.lexB .any l.toArray = true) (hw : C w.drew)
  (h : wpGrow P l.toArray C S (fun a' w' => Q .normal a' w') 0 l [] a) : wpAny P .any l.toArray (NoPanic Q) l.toArray.size (Array.replicate l.toArray.size false) a w.drew := by
 simp only [Region.lexB, Bool.and_eq_true] at hB
 have hsh : Shut l.toArray (Array.replicate l.toArray.size false) := by
  intro j o _ hj
  by_cases hl : j < l.length <;> simp [Array.getD, hl] at hj
 refine wpAny_of_grow (Q := fun a' w' => Q .normal a' w') (Q' := NoPanic Q) hS hC (fun _ _ h => h) _ _ [] _ _ (fun x hx => by cases hx) hw (fun x hx => by cases hx) ?_
 have := wpAnyG_lex (Q := fun a' w' => Q .normal a' w') hB.1 hC hS l 0 (Array.replicate l.toArray.size false) [] a hsh (fun x hx => by cases hx) ⟨w.drew, hw, fun x hx => by cases hx⟩ (by simp) (by simpa using hB.2) h
 simpa using this
theorem wp_region_grow (S : Spec) (C : World → Prop) {id : Nat} {Q : Exit → Act → World → Prop} {a : Act} {w : World} {l : List Oper} (hS : StableS S) (hC : StableC C) (hm : P.follows .mixedOrders = true)
  (hB : Region.lexB .any l.toArray = true) (hw : C w.drew)
  (h : wpGrow P l.toArray C S (fun a' w' => Q .normal a' w') 0 l [] a) : (Code.region id l.toArray true).wp P Q a w :=
 wp_region_noPanic (wp_region_any hm (any_grow S C hS hC hB hw h))
theorem grow_nil {Q : Act → World → Prop} {i : Nat} {K : Known} {a : Act} (h : ∀ w, C w → allK K w → Q a w) : wpGrow P ops C S Q i [] K a := h
theorem grow_skip {Q : Act → World → Prop} {i : Nat} {o : Oper} {rest : List Oper} {K : Known} {a : Act} (ho : ops[i]? = some o) (hw : Region.wanted o (yielded ops a.tmps) = false)
  (h : wpGrow P ops C S Q (i + 1) rest K (a.put o.dst undef)) : wpGrow P ops C S Q i (o :: rest) K a := by
 show gOp _ _ _ _ _ _ _ _
 unfold gOp
 simp only [ho, hw]
 exact h
theorem grow_pure {Q : Act → World → Prop} {i : Nat} {o : Oper} {rest : List Oper} {K : Known} {a : Act} {v : Value} (ho : ops[i]? = some o) (hs : S i = none) (hw : Region.wanted o (yielded ops a.tmps) = true)
  (h1 : ∀ w, C w → knownAt ops K i w → (execOp a.eval o).run P w = .ok (.value v) w) (h : wpGrow P ops C S Q (i + 1) rest K (a.put o.dst v)) : wpGrow P ops C S Q i (o :: rest) K a := by
 show gOp _ _ _ _ _ _ _ _
 unfold gOp
 simp only [ho, hw, if_true, hs]
 exact ⟨v, h1, h⟩
theorem grow_eff {Q : Act → World → Prop} {i : Nat} {o : Oper} {rest : List Oper} {K : Known} {a : Act} {A : Value → World → Prop} (ho : ops[i]? = some o) (hs : S i = some A) (hw : Region.wanted o (yielded ops a.tmps) = true)
  (h1 : ∀ w, C w → knownAt ops K i w → growAt P o a A w) (h : ∀ v, Inh C ((i, A v) :: K) → wpGrow P ops C S Q (i + 1) rest ((i, A v) :: K) (a.put o.dst v)) : wpGrow P ops C S Q i (o :: rest) K a := by
 show gOp _ _ _ _ _ _ _ _
 unfold gOp
 simp only [ho, hw, if_true, hs]
 exact ⟨h1, h⟩
theorem knownAt.get {K : Known} {j : Nat} {w : World} (h : knownAt ops K j w) {i : Nat} {F : World → Prop} (hm : (i, F) ∈ K) (hd : depB ops ops.size j i = true) : F w := h _ hm hd
theorem Inh.head {K : Known} {i : Nat} {F : World → Prop} (h : Inh C ((i, F) :: K)) : ∃ w, C w ∧ F w := by
 obtain ⟨w, hc, hk⟩ := h
 exact ⟨w, hc, hk _ List.mem_cons_self⟩
theorem stableC_ext (w : World) : StableC (fun w' => Ext w w') := fun _ _ h he => h.ext he
theorem grow_run {Q : Act → World → Prop} {i : Nat} {o : Oper} {rest : List Oper} {K : Known} {a : Act} (ho : ops[i]? = some o) (hs : S i = none) (hw : Region.wanted o (yielded ops a.tmps) = true)
  (h : ∃ v, (∀ w, C w → knownAt ops K i w → (execOp a.eval o).run P w = .ok (.value v) w) ∧ wpGrow P ops C S Q (i + 1) rest K (a.put o.dst v)) : wpGrow P ops C S Q i (o :: rest) K a := by
 obtain ⟨v, h1, h2⟩ := h
 exact grow_pure ho hs hw h1 h2
theorem grow_call {A : Value → World → Prop} {f : FuncId} {args : Array Value} {w : World} (h : Calls P f args w (fun e w'' => ∃ v, e = .returned v ∧ Ext w w'' ∧ A v w'')) : growUpon P A w (.ok (.enter f args) w) := ⟨Keep.refl _ _, h⟩
def specOf (L : List (Nat × (Value → World → Prop))) : Spec := fun i => (L.find? fun x => x.1 == i).map (·.2)
theorem stable_nil : StableS (specOf []) := fun i A h => by simp [specOf] at h
theorem stable_cons {i : Nat} {A : Value → World → Prop} {L : List (Nat × (Value → World → Prop))} (h : ∀ v w w', A v w → Ext w w' → A v w') (hL : StableS (specOf L)) : StableS (specOf ((i, A) :: L)) := by
 intro j B hj v w w' hA he
 by_cases e : i = j
 ·subst e
  simp [specOf] at hj
  subst hj
  exact h v w w' hA he
 ·have : specOf ((i, A) :: L) j = specOf L j := by simp [specOf, e]
  rw [this] at hj
  exact hL j B hj v w w' hA he
end
end Go.Proofs.YtihaliffcobacaaGreatDoor
