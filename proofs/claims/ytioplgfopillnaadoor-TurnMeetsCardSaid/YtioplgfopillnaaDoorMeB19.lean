/- TurnJ, GrowM: laid together. -/
import Derived.Test.YtioplgfopillnaaDoorMeB18
import Derived.Test.YtioplgfopillnaaDoorMeB11
import Derived.Test.YtioplgfopillnaaDoorMeB1
import Derived.Deep.Quiet
import Derived.Deep.QuietTactic
import Derived.KernelRfl
set_option linter.unusedSimpArgs false
set_option linter.unusedVariables false
set_option maxHeartbeats 25600000
set_option maxRecDepth 20000
namespace Go.Proofs.YtioplgfopillnaaDoor
open Go.RowKit
theorem own_stF {w : World} {base : Nat} {T : TypeId} {S S' : BS} {v : Value} {xs : List St} (h : Own ESt w base T S v xs) : Own ESt w base T S' v xs := by
 rcases h with h | ⟨g', cap, cur, e, h1, h2, h3, h4, h5, h6⟩
 ·exact .inl h
 ·exact .inr ⟨g', cap, cur, e, h1, h2, h3, h4, h5, cells_st h6⟩
def PathP (b : Nat) (p : List St) (n m : Nat) (v : Value) (w : World) : Prop := b ≤ n ∧ ∃ A c, v = .slice A p.length c ∧ Own ESt w n TSTEP (fun _ => False) v p ∧ ∀ g, v.ownBlock = some g → g < m
theorem PathP.ext {b n m : Nat} {p : List St} {v : Value} {w w' : World} (h : PathP b p n m v w) (he : Ext w w') : PathP b p n m v w' := by
 obtain ⟨h0, A, c, e, h1, h2⟩ := h; exact ⟨h0, A, c, e, h1.ext ESt.ok he, h2⟩
def ValP (b : Nat) (x : V) (n m : Nat) (v : Value) (w : World) : Prop := b ≤ n ∧ VIs w (fun k => n ≤ k ∧ k < m) v x
theorem ValP.ext {b n m : Nat} {x : V} {v : Value} {w w' : World} (h : ValP b x n m v w) (he : Ext w w') : ValP b x n m v w' := ⟨h.1, h.2.ext he⟩
def CopyO (w : World) (c : Cp) (e : Ending) (w' : World) : Prop := ∃ pv lv ov, e = .returned (.agg (cpCells c pv lv ov)) ∧ Own ESt w' w.heap.size TSTEP (fun _ => False) pv c.path ∧ Sl EVal w' (fun k => w.heap.size ≤ k ∧ pv.ownBlock ≠ some k) lv c.v.l ∧ Sl EField w' (fun k => w.heap.size ≤ k ∧ pv.ownBlock ≠ some k) ov c.v.o ∧ Ext w w'
theorem comp_copyO (w : World) (S : BS) (u : Value) (c : Cp) (h : CAt w S u c) (hp : c.path.length ≤ 1000) (hv : c.v.size ≤ 1000000) :
  Calls Tryd.prog 25 #[u] w fun e w' => CopyO w c e w' := by
 obtain ⟨pv, lv, ov, rfl, h1, h2, h3⟩ := h.cut
 obtain ⟨Ap, cp, rfl, hpl, hpm⟩ := h1.shape
 obtain ⟨Al, cl, rfl, hll, hlm⟩ := h2.shape
 obtain ⟨Ao, co, rfl, hol, hom⟩ := h3.shape
 obtain ⟨W, hW⟩ : ∃ W, (w.alloc (.cells (cpCells c (.slice Ap c.path.length cp) (.slice Al c.v.l.length cl) (.slice Ao c.v.o.length co)) TCMP)) = W := ⟨_, rfl⟩
 have hE : Ext w W := by rw [← hW]; exact (Keep.refl _ _).alloc _
 have hb : Blk W w.heap.size TCMP (cpCells c (.slice Ap c.path.length cp) (.slice Al c.v.l.length cl) (.slice Ao c.v.o.length co)) := by rw [← hW]; exact Blk.new _ _ _
 obtain ⟨W2, hW2⟩ : ∃ W2, W.alloc (.cells ZCMP TCMP) = W2 := ⟨_, rfl⟩
 have hE2 : Ext W W2 := by rw [← hW2]; exact (Keep.refl _ _).alloc _
 have hr : Blk W2 W.heap.size TCMP ZCMP := by rw [← hW2]; exact Blk.new _ _ _
 have hb2 := hb.keep hE2 id
 have p1 := hb2.cell 1
 have v0 := hb2.cell 6
 have v1 := hb2.cell 7
 have v2 := hb2.cell 8
 have v3 := hb2.cell 9
 have v4 := hb2.cell 10
 simp at p1 v0 v1 v2 v3 v4
 have hsz : W.heap.size = w.heap.size + 1 := by rw [← hW]; simp
 have hsz2 : W2.heap.size = W.heap.size + 1 := by rw [← hW2]; simp
 have H1 := hid ((h1.ext ESt.ok hE).ext ESt.ok hE2)
 have HV := hid (show VAt W2 (fun k => S k ∧ k < w.heap.size) (.agg #[U8 c.v.kind, .int .i64 c.v.n, .string c.v.s, .slice Al c.v.l.length cl, .slice Ao c.v.o.length co]) c.v from ⟨_, _, rfl, (h2.ext EVal.ok hE).ext EVal.ok hE2, (h3.ext EField.ok hE).ext EField.ok hE2⟩)
 have HB := hid hb2
 have HR := hid hr
 have HE := hid (hE.ext hE2)
 have HSZ := hid hsz
 have HSZ2 := hid hsz2
 rw [hsz] at hr
 clear h1 h2 h3 hb hE h hE2 hb2 hr hsz hsz2
 go_enter Tryd.func25, Tryd.ntmps25
 go_wp2_with fail
 refine H.wp_region_parts [] [0, 1, 2, 3, 4, 5, 6] [7, 8, 9] (H.specOf [(2, PathP W2.heap.size c.path), (5, ValP W2.heap.size c.v)]) (fun w' => Ext W2 w') (H.stable_cons (fun n m v w w' h he => h.ext he) (H.stable_cons (fun n m v w w' h he => h.ext he) H.stable_nil)) (H.stableC_ext _) (by kernel_rfl) (by kernel_rfl) (Keep.drew (Keep.refl _ _)) ?_
 refine H.pure_nil ?_
 iterate 2
  (try simp only [Act.put, sqa, sqb, sqc])
  refine H.growP_run rfl rfl rfl ?_
  apply Exists.intro
  refine ⟨fun w' hC hK => ?_, ?_⟩
  ·have p1 := sqw hC p1
   go_simp
   rfl
 (try simp only [Act.put, sqa, sqb, sqc])
 refine H.growP_eff rfl rfl rfl (fun w' hC hK => ?_) (fun v2 nv2 mv2 hv2 => ?_)
 ·unfold H.growAt
  go_simp
  refine H.grow_call ((clone_steps _ _ _ _ (H1.out.ext ESt.ok hC) (Nat.le_trans hp (by decide)) (fun k h => by have := hC.size; have := HSZ.out; have := HSZ2.out; have := h.2; omega)).mono ?_)
  rintro e w'' ⟨v', rfl, h1, h2⟩
  obtain ⟨A5, c5, rfl, _⟩ := h1.shape
  exact ⟨_, rfl, h2, hC.size, A5, c5, rfl, own_stF h1, fun g e => (h1.lt e).2⟩
 obtain ⟨_, _, _, A2, c2, rfl, _⟩ := hv2.head
 iterate 2
  (try simp only [Act.put, sqa, sqb, sqc])
  refine H.growP_run rfl rfl rfl ?_
  apply Exists.intro
  refine ⟨fun w' hC hK => ?_, ?_⟩
  ·have v0 := sqw hC v0
   have v1 := sqw hC v1
   have v2 := sqw hC v2
   have v3 := sqw hC v3
   have v4 := sqw hC v4
   go_simp
   rfl
 (try simp only [Act.put, sqa, sqb, sqc])
 refine H.growP_eff rfl rfl rfl (fun w' hC hK => ?_) (fun v5 nv5 mv5 hv5 => ?_)
 ·unfold H.growAt
  go_simp
  refine H.grow_call ((copy_valT _ c.v (Nat.le_refl _) hv _ _ _ (HV.out.ext hC)).mono ?_)
  rintro e w'' h
  obtain ⟨u', rfl, h1, h2⟩ := h.at_
  exact ⟨_, rfl, h2, hC.size, .of (h1.more fun k hk h => ⟨h, hk⟩)⟩
 obtain ⟨_, _, _, A5, m5, B5, k5, rfl, _⟩ := hv5.head
 iterate 1
  (try simp only [Act.put, sqa, sqb, sqc])
  refine H.growP_run rfl rfl rfl ?_
  apply Exists.intro
  refine ⟨fun w' hC hK => ?_, ?_⟩
  ·go_simp
   rfl
 refine H.growP_nil fun wz hC hK => ?_
 have hC : Ext W2 wz := hC
 have HC := hid hC
 have HPV : Hid (PathP W2.heap.size c.path nv2 mv2 (.slice A2 c.path.length c2) wz) := hid (hK.1 (2, _) (List.mem_cons_of_mem _ List.mem_cons_self)).1
 have HVV : Hid (ValP W2.heap.size c.v nv5 mv5 (.agg #[U8 c.v.kind, .int .i64 c.v.n, .string c.v.s, .slice A5 c.v.l.length m5, .slice B5 c.v.o.length k5]) wz) := hid (hK.1 (5, _) List.mem_cons_self).1
 have HIN := hid (show mv2 ≤ nv5 ∨ mv5 ≤ nv2 from hK.2 (2, _) (List.mem_cons_of_mem _ List.mem_cons_self) (5, _) List.mem_cons_self (by simp))
 have hb := HB.out.keep hC id
 have hr := HR.out.keep hC id
 have HB1 := hid hb
 have HR1 := hid hr
 have hbz : w.heap.size < W.heap.size := by have := HSZ.out; omega
 have f1 := hb.frozen 1
 have f6 := hb.frozen 6
 have f7 := hb.frozen 7
 have f8 := hb.frozen 8
 have f9 := hb.frozen 9
 have f10 := hb.frozen 10
 have y1 := hb.cell 1
 have y6 := hb.cell 6
 have y7 := hb.cell 7
 have y8 := hb.cell 8
 have y9 := hb.cell 9
 have y10 := hb.cell 10
 simp at y1 y6 y7 y8 y9 y10
 obtain ⟨X1, hX1⟩ : ∃ X1, (((((wz.setCell ⟨w.heap.size, 1, none⟩ (.slice A2 c.path.length c2)).setCell ⟨w.heap.size, 6, none⟩ (.int .u8 (c.v.kind.toNat : Int))).setCell ⟨w.heap.size, 7, none⟩ (.int .i64 c.v.n)).setCell ⟨w.heap.size, 8, none⟩ (.string c.v.s)).setCell ⟨w.heap.size, 9, none⟩ (.slice A5 c.v.l.length m5)).setCell ⟨w.heap.size, 10, none⟩ (.slice B5 c.v.o.length k5) = X1 := ⟨_, rfl⟩
 have hk1 : Keep (· = w.heap.size) wz X1 := by
  rw [← hX1]
  exact ((((((Keep.refl (· = w.heap.size) wz).set1 1 _).set1 6 _).set1 7 _).set1 8 _).set1 9 _).set1 10 _
 have hx1 : Blk X1 w.heap.size TCMP (cpCells c (.slice A2 c.path.length c2) (.slice A5 c.v.l.length m5) (.slice B5 c.v.o.length k5)) := by
  rw [← hX1]
  exact (((((hb.set_ 1 (.slice A2 c.path.length c2)).set_ 6 (U8 c.v.kind)).set_ 7 (.int .i64 c.v.n)).set_ 8 (.string c.v.s)).set_ 9 (.slice A5 c.v.l.length m5)).set_ 10 (.slice B5 c.v.o.length k5)
 have hr1 : Blk X1 W.heap.size TCMP ZCMP := hr.keep hk1 (by omega)
 have HX1 := hid hx1
 have HRX := hid hr1
 have HK1 := hid hk1
 have HX := hid hX1
 clear hx1 hr1 hk1 hX1 hb hr hC hK
 change wpList _ _ _ (_ :: _ :: _ :: []) _ _
 (try simp only [Act.put, sqa, sqb, sqc])
 go_wp2_with fail
 refine NoPanic.normal ?_
 rw [HX.out]
 obtain ⟨a0, a1, a2, a3, a4, a5, a6, a7, a8, a9, a10, a11⟩ := sq12 HX1.out
 obtain ⟨z0, z1, z2, z3, z4, z5, z6, z7, z8, z9, z10, z11⟩ := sq12 HRX.out
 obtain ⟨g0, g1, g2, g3, g4, g5, g6, g7, g8, g9, g10, g11⟩ := sqf12 HRX.out
 have hne : w.heap.size ≠ W.heap.size := by omega
 clear f1 f6 f7 f8 f9 f10 y1 y6 y7 y8 y9 y10 HX
 have HK2 := hid (show Keep (· = W.heap.size) X1 ((((((((((((X1.setCell ⟨W.heap.size, 0, none⟩ (.int .u8 (c.kind.toNat : Int))).setCell ⟨W.heap.size, 1, none⟩ (.slice A2 c.path.length c2)).setCell ⟨W.heap.size, 2, none⟩ (.string c.key)).setCell ⟨W.heap.size, 3, none⟩ (.int .i64 c.i)).setCell ⟨W.heap.size, 4, none⟩ (.int .i64 c.j)).setCell ⟨W.heap.size, 5, none⟩ (.int .i64 c.n)).setCell ⟨W.heap.size, 6, none⟩ (.int .u8 (c.v.kind.toNat : Int))).setCell ⟨W.heap.size, 7, none⟩ (.int .i64 c.v.n)).setCell ⟨W.heap.size, 8, none⟩ (.string c.v.s)).setCell ⟨W.heap.size, 9, none⟩ (.slice A5 c.v.l.length m5)).setCell ⟨W.heap.size, 10, none⟩ (.slice B5 c.v.o.length k5)).setCell ⟨W.heap.size, 11, none⟩ (.string c.s)) from (((((((((((((Keep.refl (· = W.heap.size) X1).set1 0 _).set1 1 _).set1 2 _).set1 3 _).set1 4 _).set1 5 _).set1 6 _).set1 7 _).set1 8 _).set1 9 _).set1 10 _).set1 11 _))
 go_wp2
 refine bodyPost_ret (v := .agg (cpCells c (.slice A2 c.path.length c2) (.slice A5 c.v.l.length m5) (.slice B5 c.v.o.length k5))) (by simp [results, Tryd.results25, go_sem, z0, z1, z2, z3, z4, z5, z6, z7, z8, z9, z10, z11]) rfl ?_
 have hs2 := HSZ2.out
 obtain ⟨hn2, A6, c6, e6, hp1, hlt⟩ := HPV.out
 injection e6 with e1 _ e2
 subst e1 e2
 obtain ⟨hn5, A7, n7, B7, k7, e7, hl1, ho1⟩ := HVV.out
 simp only [Value.agg.injEq] at e7
 simp at e7
 obtain ⟨⟨rfl, rfl⟩, rfl, rfl⟩ := e7
 have hin := HIN.out
 have hap : ∀ k, nv5 ≤ k ∧ k < mv5 → (Value.slice A2 c.path.length c2).ownBlock ≠ some k := fun k hk e => by
  have h1 := hp1.lt e
  have h2 := hlt k e
  omega
 refine ⟨_, _, _, rfl, ((hp1.keep ESt.ok HK1.out (fun _ h => h.elim) fun g e h => ?_).keep ESt.ok HK2.out (fun _ h => h.elim) fun g e h => ?_).less (by omega), ((hl1.keep EVal.ok HK1.out fun k h e => ?_).keep EVal.ok HK2.out fun k h e => ?_).more EVal.ok fun k _ h => ⟨by omega, hap k h⟩, ((ho1.keep EField.ok HK1.out fun k h e => ?_).keep EField.ok HK2.out fun k h e => ?_).more EField.ok fun k _ h => ⟨by omega, hap k h⟩, ((HE.out.ext HC.out).trans HK1.out fun k hk e => by omega).trans HK2.out fun k hk e => by omega⟩
 ·have := (hp1.lt e).1; omega
 ·have := (hp1.lt e).1; omega
 all_goals omega
end Go.Proofs.YtioplgfopillnaaDoor
namespace Go.Proofs.YtioplgfopillnaaDoor.M
open Go.RowKit
abbrev Spec := Nat → Option (Value → World → Prop)
abbrev Known := List (Nat × (World → Prop))
def depB (ops : Array Oper) : Nat → Nat → Nat → Bool
 | 0, _, _ => false
 | f + 1, j, i => match ops[j]? with
  | none => false
  | some o => o.after.any fun e => Region.binds .any e && (e.on == i || depB ops f e.on i)
def knownAt (ops : Array Oper) (K : Known) (j : Nat) (w : World) : Prop := ∀ x ∈ K, depB ops ops.size j x.1 = true → x.2 w
def allK (K : Known) (w : World) : Prop := ∀ x ∈ K, x.2 w
def Inh (C : World → Prop) (K : Known) : Prop := ∃ w, C w ∧ allK K w
def growUpon (P : Program) (R : World → Prop) (A : Value → World → Prop) : Result Next → Prop
 | .ok (.value v) w' => R w' ∧ A v w'
 | .ok (.enter f args) w' => Calls P f args w' (fun e w'' => ∃ v, e = .returned v ∧ R w'' ∧ A v w'')
 | _ => False
def growAt (P : Program) (R : World → World → Prop) (o : Oper) (a : Act) (A : Value → World → Prop) (w : World) : Prop := growUpon P (R w) A ((execOp a.eval o).run P w)
section
variable (P : Program) (ops : Array Oper) (C : World → Prop) (R : Nat → World → World → Prop) (S : Spec)
def gOp (i : Nat) (next : Known → Act → Prop) (K : Known) (a : Act) : Prop :=
 match ops[i]? with
 | none => next K a
 | some o => if Region.wanted o (yielded ops a.tmps) then
   match S i with
   | none => ∃ v, (∀ w, C w → knownAt ops K i w → (execOp a.eval o).run P w = .ok (.value v) w) ∧ next K (a.put o.dst v)
   | some A => (∀ w, C w → knownAt ops K i w → growAt P (R i) o a A w) ∧ ∀ v, Inh C ((i, A v) :: K) → next ((i, A v) :: K) (a.put o.dst v)
  else next K (a.put o.dst undef)
def wpGrow (Q : Act → World → Prop) : Nat → List Oper → Known → Act → Prop
 | _, [], K, a => ∀ w, C w → allK K w → Q a w
 | i, _ :: rest, K, a => gOp P ops C R S i (wpGrow Q (i + 1) rest) K a
def wpAnyG (Q : Act → World → Prop) : Nat → Array Bool → Known → Act → Prop
 | 0, listed, K, a => Region.ready .any ops listed = [] ∧ ∀ w, C w → allK K w → Q a w
 | fuel + 1, listed, K, a =>
  (Region.ready .any ops listed = [] → ∀ w, C w → allK K w → Q a w) ∧
  ∀ i ∈ Region.ready .any ops listed, gOp P ops C R S i (wpAnyG Q fuel (listed.setIfInBounds i true)) K a
end
section
variable {P : Program} {ops : Array Oper} {C : World → Prop} {R : Nat → World → World → Prop} {S : Spec}
theorem gOp_mono {i : Nat} {next next' : Known → Act → Prop} {K : Known} {a : Act} (h : ∀ K a, next K a → next' K a) (hh : gOp P ops C R S i next K a) : gOp P ops C R S i next' K a := by
 unfold gOp at *
 split
 ·rename_i ho; simp only [ho] at hh; exact h _ _ hh
 ·rename_i o ho
  simp only [ho] at hh
  split
  ·rename_i hw
   simp only [hw, if_true] at hh
   split
   ·rename_i hs; simp only [hs] at hh; obtain ⟨v, h1, h2⟩ := hh; exact ⟨v, h1, h _ _ h2⟩
   ·rename_i A hs; simp only [hs] at hh; exact ⟨hh.1, fun v hc => h _ _ (hh.2 v hc)⟩
  ·rename_i hw; simp only [hw] at hh; exact h _ _ hh
def StableS (R : Nat → World → World → Prop) (S : Spec) : Prop := ∀ i A, S i = some A → ∀ j, j ≠ i → ∀ v w w', A v w → R j w w' → A v w'
def StableC (R : Nat → World → World → Prop) (C : World → Prop) : Prop := ∀ j w w', C w → R j w w' → C w'
def GoodK (R : Nat → World → World → Prop) (listed : Array Bool) (K : Known) : Prop := ∀ x ∈ K, listed.getD x.1 false = true ∧ ∀ j, j ≠ x.1 → ∀ w w', x.2 w → R j w w' → x.2 w'
theorem allK.knownAt {K : Known} {w : World} {j : Nat} (h : allK K w) : knownAt ops K j w := fun x hx _ => h x hx
theorem not_listed_of_ready {listed : Array Bool} {j : Nat} (hj : j ∈ Region.ready .any ops listed) : listed.getD j false = false := by
 have h0 := (mem_ready.1 hj).1
 rcases Nat.lt_or_ge j listed.size with h' | h'
 ·simp [h'] at h0 ⊢; exact h0
 ·simp [Array.getElem?_eq_none h']
theorem GoodK.fresh {listed : Array Bool} {K : Known} (h : GoodK R listed K) {i : Nat} (hi : i ∈ Region.ready .any ops listed) : ∀ x ∈ K, i ≠ x.1 := fun x hx e => by
 have h1 := (h x hx).1
 rw [← e, not_listed_of_ready hi] at h1
 cases h1
theorem GoodK.all {listed : Array Bool} {K : Known} (h : GoodK R listed K) {i : Nat} (hf : ∀ x ∈ K, i ≠ x.1) {w w' : World} (ha : allK K w) (hr : R i w w') : allK K w' := fun x hx => (h x hx).2 i (hf x hx) w w' (ha x hx) hr
theorem GoodK.set {listed : Array Bool} {K : Known} (h : GoodK R listed K) (i : Nat) : GoodK R (listed.setIfInBounds i true) K := fun x hx => ⟨getD_set_true (h x hx).1, (h x hx).2⟩
theorem ready_lt {listed : Array Bool} {i : Nat} (hi : i ∈ Region.ready .any ops listed) : i < listed.size := by
 have h0 := (mem_ready.1 hi).1
 rcases Nat.lt_or_ge i listed.size with h' | h'
 ·exact h'
 ·simp [Array.getElem?_eq_none h'] at h0
theorem GoodK.cons {listed : Array Bool} {K : Known} (h : GoodK R listed K) (hS : StableS R S) {i : Nat} (hi : i ∈ Region.ready .any ops listed) {A : Value → World → Prop} (hs : S i = some A) (v : Value) : GoodK R (listed.setIfInBounds i true) ((i, A v) :: K) := by
 intro x hx
 rcases List.mem_cons.1 hx with rfl | hx
 ·exact ⟨by have := ready_lt hi; simp [this], fun j hj w w' h1 hr => hS i A hs j hj v w w' h1 hr⟩
 ·exact (h.set i) x hx
theorem wpOp_of_gOp {i : Nat} {a : Act} {K : Known} {listed : Array Bool} {next : Known → Act → Prop} {K' : Act → World → Prop} {Q' : Exit → Act → World → Prop} {w : World} (hS : StableS R S) (hC : StableC R C) (hK : GoodK R listed K) (hri : i ∈ Region.ready .any ops listed)
  (hCw : C w) (hKw : allK K w) (h : ∀ K a w', GoodK R (listed.setIfInBounds i true) K → C w' → allK K w' → next K a → K' a w') (hh : gOp P ops C R S i next K a) : wpOp P ops Q' i K' a w := by
 have hfr := hK.fresh hri
 unfold gOp at hh
 unfold wpOp
 split
 ·rename_i ho; simp only [ho] at hh; exact h _ _ _ (hK.set i) hCw hKw hh
 ·rename_i o ho
  simp only [ho] at hh
  split
  ·rename_i hw
   simp only [hw, if_true] at hh
   refine .inl ?_
   unfold Oper.wp
   split at hh
   ·obtain ⟨v, h1, h2⟩ := hh
    rw [h1 w hCw hKw.knownAt]
    exact h _ _ _ (hK.set i) hCw hKw h2
   ·rename_i A hs
    have h1 := hh.1 w hCw hKw.knownAt
    unfold growAt at h1
    generalize (execOp a.eval o).run P w = r at *
    cases r with
    | ok n w' =>
     cases n <;> simp only [growUpon] at h1 <;> simp only [Oper.upon]
     case value v =>
      have hc := hC i w w' hCw h1.1
      have hall : allK ((i, A v) :: K) w' := fun x hx => by
       rcases List.mem_cons.1 hx with rfl | hx
       ·exact h1.2
       ·exact hK.all hfr hKw h1.1 x hx
      exact h _ _ _ (hK.cons hS hri hs v) hc hall (hh.2 v ⟨w', hc, hall⟩)
     case enter f args =>
      refine h1.mono fun e w'' ⟨v, hv, he', hA⟩ => ?_
      subst hv
      have hc := hC i w w'' hCw he'
      have hall : allK ((i, A v) :: K) w'' := fun x hx => by
       rcases List.mem_cons.1 hx with rfl | hx
       ·exact hA
       ·exact hK.all hfr hKw he' x hx
      exact h _ _ _ (hK.cons hS hri hs v) hc hall (hh.2 v ⟨w'', hc, hall⟩)
    | halt x w' => simp only [growUpon] at h1
  ·rename_i hw; simp only [hw] at hh; exact h _ _ _ (hK.set i) hCw hKw hh
theorem wpAny_of_grow {Q : Act → World → Prop} {Q' : Exit → Act → World → Prop} (hS : StableS R S) (hC : StableC R C) (hQ : ∀ a w, Q a w → Q' .normal a w) : ∀ (fuel : Nat) (listed : Array Bool) (K : Known) (a : Act) (w : World),
  GoodK R listed K → C w → allK K w → wpAnyG P ops C R S Q fuel listed K a → wpAny P .any ops Q' fuel listed a w
 | 0, _, _, _, _, _, hc, hk, h => ⟨h.1, hQ _ _ (h.2 _ hc hk)⟩
 | fuel + 1, _, _, _, _, hK, hc, hk, h => ⟨fun h0 => hQ _ _ (h.1 h0 _ hc hk), fun i hi => wpOp_of_gOp hS hC hK hi hc hk (fun K' a' w' hK' hc' hk' hn => wpAny_of_grow hS hC hQ fuel _ K' a' w' hK' hc' hk' hn) (h.2 i hi)⟩
def Shut (ops : Array Oper) (listed : Array Bool) : Prop :=
 ∀ j o, ops[j]? = some o → listed.getD j false = true → ∀ e ∈ o.after, Region.binds .any e = true → listed.getD e.on false = true
theorem getD_set_cases {listed : Array Bool} {i j : Nat} (h : (listed.setIfInBounds i true).getD j false = true) : j = i ∨ listed.getD j false = true := by
 by_cases e : i = j
 ·exact .inl e.symm
 ·rw [getD_set_ne false e] at h; exact .inr h
theorem Shut.set {listed : Array Bool} (h : Shut ops listed) {i : Nat} (hi : i ∈ Region.ready .any ops listed) : Shut ops (listed.setIfInBounds i true) := by
 intro j o ho hj e he hb
 rcases getD_set_cases hj with rfl | hj
 ·obtain ⟨_, o', ho', hall⟩ := mem_ready.1 hi
  rw [ho] at ho'
  obtain rfl := Option.some.inj ho'
  exact getD_set_true (hall e he hb)
 ·exact getD_set_true (h j o ho hj e he hb)
theorem depB_listed {listed : Array Bool} (h : Shut ops listed) : ∀ (f j i : Nat), listed.getD j false = true → depB ops f j i = true → listed.getD i false = true
 | 0, _, _, _, h0 => by simp [depB] at h0
 | f + 1, j, i, hj, h0 => by
  unfold depB at h0
  split at h0
  ·cases h0
  ·rename_i o ho
   obtain ⟨k, hk, hb⟩ := Array.any_eq_true.1 h0
   simp only [Bool.and_eq_true, Bool.or_eq_true, beq_iff_eq] at hb
   have hl := h j o ho hj _ (Array.getElem_mem hk) hb.1
   rcases hb.2 with rfl | hd
   ·exact hl
   ·exact depB_listed h f _ i hl hd
theorem depB_ready {listed : Array Bool} (h : Shut ops listed) {f j i : Nat} (hj : j ∈ Region.ready .any ops listed) (h0 : depB ops f j i = true) : listed.getD i false = true := by
 cases f with
 | zero => simp [depB] at h0
 | succ f =>
  obtain ⟨_, o, ho, hall⟩ := mem_ready.1 hj
  unfold depB at h0
  simp only [ho] at h0
  obtain ⟨k, hk, hb⟩ := Array.any_eq_true.1 h0
  simp only [Bool.and_eq_true, Bool.or_eq_true, beq_iff_eq] at hb
  have hl := hall _ (Array.getElem_mem hk) hb.1
  rcases hb.2 with rfl | hd
  ·exact hl
  ·exact depB_listed h f _ i hl hd
theorem knownAt_cons {listed : Array Bool} (h : Shut ops listed) {i j : Nat} (hi : i ∈ Region.ready .any ops listed) (hj : j ∈ Region.ready .any ops listed) {K : Known} {F : World → Prop} {w : World} :
  knownAt ops ((i, F) :: K) j w ↔ knownAt ops K j w := by
 constructor
 ·exact fun hk x hx => hk x (List.mem_cons_of_mem _ hx)
 ·intro hk x hx hd
  rcases List.mem_cons.1 hx with rfl | hx
  ·have := depB_ready h hj hd
   rw [not_listed_of_ready hi] at this
   cases this
  ·exact hk x hx hd
def SameK (K K' : Known) : Prop := ∀ x, x ∈ K ↔ x ∈ K'
theorem SameK.allK {K K' : Known} (h : SameK K K') {w : World} : allK K w ↔ allK K' w := ⟨fun hk x hx => hk x ((h x).2 hx), fun hk x hx => hk x ((h x).1 hx)⟩
theorem SameK.knownAt {K K' : Known} (h : SameK K K') {j : Nat} {w : World} : knownAt ops K j w ↔ knownAt ops K' j w := ⟨fun hk x hx => hk x ((h x).2 hx), fun hk x hx => hk x ((h x).1 hx)⟩
theorem SameK.cons {K K' : Known} (h : SameK K K') (y : Nat × (World → Prop)) : SameK (y :: K) (y :: K') := fun x => by simp only [List.mem_cons, h x]
theorem SameK.swap (x y : Nat × (World → Prop)) (K : Known) : SameK (x :: y :: K) (y :: x :: K) := fun z => by
 simp only [List.mem_cons]
 exact ⟨fun h => by rcases h with h | h | h <;> simp [h], fun h => by rcases h with h | h | h <;> simp [h]⟩
theorem gOp_same {i : Nat} {next next' : Known → Act → Prop} {K K' : Known} {a : Act} (hk : SameK K K') (h : ∀ K K' a, SameK K K' → next K a → next' K' a) (hh : gOp P ops C R S i next K a) : gOp P ops C R S i next' K' a := by
 unfold gOp at *
 split
 ·rename_i ho; simp only [ho] at hh; exact h _ _ _ hk hh
 ·rename_i o ho
  simp only [ho] at hh
  split
  ·rename_i hw
   simp only [hw, if_true] at hh
   split
   ·rename_i hs; simp only [hs] at hh; obtain ⟨v, h1, h2⟩ := hh; exact ⟨v, fun w hc hka => h1 w hc (hk.knownAt.2 hka), h _ _ _ hk h2⟩
   ·rename_i A hs; simp only [hs] at hh; exact ⟨fun w hc hka => hh.1 w hc (hk.knownAt.2 hka), fun v ⟨w, hc, ha⟩ => h _ _ _ (hk.cons _) (hh.2 v ⟨w, hc, (hk.cons _).allK.2 ha⟩)⟩
  ·rename_i hw; simp only [hw] at hh; exact h _ _ _ hk hh
theorem wpAnyG_same {Q : Act → World → Prop} : ∀ (fuel : Nat) (listed : Array Bool) (K K' : Known) (a : Act), SameK K K' → wpAnyG P ops C R S Q fuel listed K a → wpAnyG P ops C R S Q fuel listed K' a
 | 0, _, _, _, _, hk, h => ⟨h.1, fun w hc ha => h.2 w hc (hk.allK.2 ha)⟩
 | fuel + 1, _, _, _, _, hk, h => ⟨fun h0 w hc ha => h.1 h0 w hc (hk.allK.2 ha), fun i hi => gOp_same hk (fun K K' a hk' hn => wpAnyG_same fuel _ K K' a hk' hn) (h.2 i hi)⟩
theorem gOp_put {j : Nat} {oi oj : Oper} (hj : ops[j]? = some oj) (hap : oi.apart ops oj = true) (hsj : ∀ cs b, oj.op ≠ .select cs b) {next : Known → Act → Prop} {K : Known} {a : Act} {v : Value}
  (h : gOp P ops C R S j next K (a.put oi.dst v)) : gOp P ops C R S j (fun K' a' => next K' (a'.put oi.dst v)) K a := by
 obtain ⟨h1, h2, _⟩ := Oper.apart_spec hap
 unfold gOp at *
 simp only [hj] at *
 rw [wanted_put oj a oi.dst v h1] at h
 have hx : execOp (a.put oi.dst v).eval oj = execOp a.eval oj := execOp_put oj hsj a oi.dst v h1
 split
 ·rename_i hw
  simp only [hw, if_true] at h
  split
  ·rename_i hs
   simp only [hs] at h
   obtain ⟨u, hu, hn⟩ := h
   exact ⟨u, fun w hc hk => by rw [← hx]; exact hu w hc hk, by rw [← Act.put_comm a v u h2]; exact hn⟩
  ·rename_i A hs
   simp only [hs] at h
   refine ⟨fun w hc hk => ?_, fun u hc => by rw [← Act.put_comm a v u h2]; exact h.2 u hc⟩
   have := h.1 w hc hk
   unfold growAt at *
   rwa [hx] at this
 ·rename_i hw
  simp only [hw] at h
  rw [← Act.put_comm a v undef h2]; exact h
theorem growAt_val {i : Nat} {o : Oper} {a : Act} {A : Value → World → Prop} {w : World} (hC : StableC R C) (hc : C w) (h1 : growAt P (R i) o a A w) : ∃ v w1, C w1 ∧ R i w w1 ∧ A v w1 := by
 unfold growAt at h1
 generalize (execOp a.eval _).run P w = r at *
 cases r with
 | ok n w' =>
  cases n <;> simp only [growUpon] at h1
  case value v => exact ⟨v, w', hC i _ _ hc h1.1, h1.1, h1.2⟩
  case enter f args =>
   obtain ⟨e, w'', fr, ⟨v, _, he', hA⟩, _⟩ := h1 []
   exact ⟨v, w'', hC i _ _ hc he', he', hA⟩
 | halt x w' => simp only [growUpon] at h1
theorem growAt_inh {i : Nat} {o : Oper} {a : Act} {A : Value → World → Prop} {w : World} {K : Known} {listed : Array Bool} (hC : StableC R C) (hK : GoodK R listed K) (hri : i ∈ Region.ready .any ops listed) (hc : C w) (hk : allK K w) (h1 : growAt P (R i) o a A w) : ∃ v, Inh C ((i, A v) :: K) := by
 obtain ⟨v, w1, h2, h3, h4⟩ := growAt_val hC hc h1
 exact ⟨v, w1, h2, fun x hx => by
  rcases List.mem_cons.1 hx with rfl | hx
  ·exact h4
  ·exact hK.all (hK.fresh hri) hk h3 x hx⟩
theorem gOp_inh {i : Nat} {next : Known → Act → Prop} {K : Known} {a : Act} {listed : Array Bool} (hC : StableC R C) (hK : GoodK R listed K) (hri : i ∈ Region.ready .any ops listed) (hi : Inh C K) (hh : gOp P ops C R S i next K a) : ∃ K' a', next K' a' := by
 obtain ⟨w, hc, hk⟩ := hi
 unfold gOp at hh
 split at hh
 ·exact ⟨_, _, hh⟩
 ·split at hh
  ·split at hh
   ·obtain ⟨v, _, h2⟩ := hh; exact ⟨_, _, h2⟩
   ·obtain ⟨v, hv⟩ := growAt_inh (i := i) hC hK hri hc hk (hh.1 w hc hk.knownAt)
    exact ⟨_, _, hh.2 v hv⟩
  ·exact ⟨_, _, hh⟩
theorem gOp_comm {listed : Array Bool} (hsh : Shut ops listed) {i j : Nat} {oi oj : Oper} (hi : ops[i]? = some oi) (hj : ops[j]? = some oj) (hap : oi.apart ops oj = true)
  (hsi : ∀ cs b, oi.op ≠ .select cs b) (hsj : ∀ cs b, oj.op ≠ .select cs b) (hri : i ∈ Region.ready .any ops listed) (hrj : j ∈ Region.ready .any ops listed)
  {N N' : Known → Act → Prop} (hN : ∀ K K' a, SameK K K' → N K a → N' K' a) {K : Known} {a : Act} (hC : StableC R C) (hK : GoodK R listed K) (hinh : Inh C K)
  (h : gOp P ops C R S i (fun K a => gOp P ops C R S j N K a) K a) : gOp P ops C R S j (fun K a => gOp P ops C R S i N' K a) K a := by
 obtain ⟨_, _, h3⟩ := Oper.apart_spec hap
 have hwi : ∀ a u, Region.wanted oi (yielded ops (Act.put a oj.dst u).tmps) = Region.wanted oi (yielded ops a.tmps) := fun a u => wanted_put oi a oj.dst u h3
 have hxi : ∀ a u, execOp (Act.put a oj.dst u).eval oi = execOp a.eval oi := fun a u => execOp_put oi hsi a oj.dst u h3
 conv at h => unfold gOp
 simp only [hi] at h
 by_cases hw : Region.wanted oi (yielded ops a.tmps) = true
 ·simp only [hw, if_true] at h
  cases hs : S i with
  | none =>
   simp only [hs] at h
   obtain ⟨v, hv, hn⟩ := h
   have hn' := gOp_put hj hap hsj hn
   unfold gOp at hn' ⊢
   simp only [hj] at hn' ⊢
   split
   ·rename_i hwj
    simp only [hwj, if_true] at hn'
    split
    ·rename_i hsj'
     simp only [hsj'] at hn'
     obtain ⟨u, hu, hm⟩ := hn'
     refine ⟨u, hu, ?_⟩
     simp only [hi, hwi, hw, if_true, hs, hxi]
     exact ⟨v, hv, hN _ _ _ (fun _ => Iff.rfl) hm⟩
    ·rename_i A hsj'
     simp only [hsj'] at hn'
     refine ⟨hn'.1, fun u hc => ?_⟩
     simp only [hi, hwi, hw, if_true, hs, hxi]
     exact ⟨v, fun w hc hk => hv w hc ((knownAt_cons hsh hrj hri).1 hk), hN _ _ _ (fun _ => Iff.rfl) (hn'.2 u hc)⟩
   ·rename_i hwj
    simp only [hwj] at hn'
    simp only [hi, hwi, hw, if_true, hs, hxi]
    exact ⟨v, hv, hN _ _ _ (fun _ => Iff.rfl) hn'⟩
  | some Ai =>
   simp only [hs] at h
   obtain ⟨hg, hn⟩ := h
   have hn' := fun v hc => gOp_put hj hap hsj (hn v hc)
   obtain ⟨w0, hc0, hk0⟩ := hinh
   obtain ⟨v0, hv0⟩ := growAt_inh (i := i) hC hK hri hc0 hk0 (hg w0 hc0 hk0.knownAt)
   have h0 := hn' v0 hv0
   have back : ∀ K' u, (∀ w, C w → knownAt ops K' i w → knownAt ops K i w) → (∀ v, Inh C ((i, Ai v) :: K') → N' ((i, Ai v) :: K') ((a.put oj.dst u).put oi.dst v)) → gOp P ops C R S i N' K' (a.put oj.dst u) := by
    intro K' u hkn hall
    unfold gOp
    simp only [hi, hwi, hw, if_true, hs]
    refine ⟨fun w hc hk => ?_, hall⟩
    have := hg w hc (hkn w hc hk)
    unfold growAt at *
    rwa [hxi]
   unfold gOp at h0
   conv => unfold gOp
   simp only [hj] at h0 ⊢
   split
   ·rename_i hwj
    simp only [hwj, if_true] at h0
    split
    ·rename_i hsj'
     simp only [hsj'] at h0
     obtain ⟨u, hu, _⟩ := h0
     refine ⟨u, fun w hc hk => hu w hc ((knownAt_cons hsh hri hrj).2 hk), back K u (fun _ _ h => h) fun v hc => ?_⟩
     have hm := hn' v hc
     unfold gOp at hm
     simp only [hj, hwj, if_true, hsj'] at hm
     obtain ⟨u', hu', hm⟩ := hm
     have e1 := hu w0 hc0 ((knownAt_cons hsh hri hrj).2 hk0.knownAt)
     have e2 := hu' w0 hc0 ((knownAt_cons hsh hri hrj).2 hk0.knownAt)
     rw [e1] at e2
     injection e2 with e2 _
     injection e2 with e2
     subst e2
     exact hN _ _ _ (fun _ => Iff.rfl) hm
    ·rename_i A hsj'
     simp only [hsj'] at h0
     refine ⟨fun w hc hk => h0.1 w hc ((knownAt_cons hsh hri hrj).2 hk), fun u _ => back _ u (fun w _ hk => (knownAt_cons hsh hrj hri).1 hk) fun v ⟨w1, hc1, ha1⟩ => ?_⟩
     have hm := hn' v ⟨w1, hc1, fun x hx => ha1 x (by
      rcases List.mem_cons.1 hx with rfl | hx
      ·exact List.mem_cons_self
      ·exact List.mem_cons_of_mem _ (List.mem_cons_of_mem _ hx))⟩
     unfold gOp at hm
     simp only [hj, hwj, if_true, hsj'] at hm
     exact hN _ _ _ (SameK.swap _ _ _) (hm.2 u ⟨w1, hc1, (SameK.swap _ _ _).allK.1 ha1⟩)
   ·rename_i hwj
    refine back K undef (fun _ _ h => h) fun v hc => ?_
    have hm := hn' v hc
    unfold gOp at hm
    simp only [hj, hwj] at hm
    exact hN _ _ _ (fun _ => Iff.rfl) hm
 ·simp only [hw] at h
  have hn' := gOp_put hj hap hsj h
  refine gOp_mono (fun K' a' hm => ?_) (a := a) (K := K) (i := j) (next := fun K' a' => Region.wanted oi (yielded ops a'.tmps) = false ∧ N K' (a'.put oi.dst undef)) ?_
  ·unfold gOp
   simp only [hi, hm.1]
   exact hN _ _ _ (fun _ => Iff.rfl) hm.2
  ·have hwf : Region.wanted oi (yielded ops a.tmps) = false := by simpa using hw
   unfold gOp at hn' ⊢
   simp only [hj] at hn' ⊢
   split
   ·rename_i hwj
    simp only [hwj, if_true] at hn'
    split
    ·rename_i hsj'
     simp only [hsj'] at hn'
     obtain ⟨u, hu, hm⟩ := hn'
     exact ⟨u, hu, by rw [hwi]; exact hwf, hm⟩
    ·rename_i A hsj'
     simp only [hsj'] at hn'
     exact ⟨hn'.1, fun u hc => ⟨by rw [hwi]; exact hwf, hn'.2 u hc⟩⟩
   ·rename_i hwj
    simp only [hwj] at hn'
    exact ⟨by rw [hwi]; exact hwf, hn'⟩
theorem gOp_keep {i : Nat} {next : Known → Act → Prop} {K : Known} {a : Act} {listed : Array Bool} (hS : StableS R S) (hK : GoodK R listed K) (hri : i ∈ Region.ready .any ops listed) (hi : Inh C K) (hh : gOp P ops C R S i next K a) :
  gOp P ops C R S i (fun K' a' => GoodK R (listed.setIfInBounds i true) K' ∧ Inh C K' ∧ next K' a') K a := by
 unfold gOp at *
 split
 ·rename_i ho; simp only [ho] at hh; exact ⟨hK.set i, hi, hh⟩
 ·rename_i o ho
  simp only [ho] at hh
  split
  ·rename_i hw
   simp only [hw, if_true] at hh
   split
   ·rename_i hs; simp only [hs] at hh; obtain ⟨v, h1, h2⟩ := hh; exact ⟨v, h1, hK.set i, hi, h2⟩
   ·rename_i A hs; simp only [hs] at hh; exact ⟨hh.1, fun v hc => ⟨hK.cons hS hri hs v, hc, hh.2 v hc⟩⟩
  ·rename_i hw; simp only [hw] at hh; exact ⟨hK.set i, hi, hh⟩
theorem wpAnyG_first {Q : Act → World → Prop} {i : Nat} {oi : Oper} (hi : ops[i]? = some oi) (hsel : ∀ (j : Nat) (o : Oper) cs b, ops[j]? = some o → o.op ≠ .select cs b) (hC : StableC R C) (hS : StableS R S) :
  ∀ (fuel : Nat) (listed : Array Bool) (K : Known) (a : Act), Shut ops listed → GoodK R listed K → Inh C K →
   (∀ j oj, ops[j]? = some oj → j ≠ i → listed.getD j true = false → (∀ e ∈ oj.after, Region.binds .any e = true → e.on ≠ i) → oi.apart ops oj = true) →
   i ∈ Region.ready .any ops listed →
   gOp P ops C R S i (wpAnyG P ops C R S Q fuel (listed.setIfInBounds i true)) K a → wpAnyG P ops C R S Q (fuel + 1) listed K a := by
 intro fuel
 induction fuel with
 | zero =>
  intro listed K a _ hK hinh _ hr H
  refine ⟨fun h => (by rw [h] at hr; cases hr), fun j hj => ?_⟩
  by_cases hji : j = i
  ·subst hji; exact H
  ·obtain ⟨K', a', h0⟩ := gOp_inh hC hK hr hinh H
   have := ready_mono hj hji
   rw [h0.1] at this
   cases this
 | succ fuel ih =>
  intro listed K a hsh hK hinh hfree hr H
  refine ⟨fun h => (by rw [h] at hr; cases hr), fun j hj => ?_⟩
  by_cases hji : j = i
  ·subst hji; exact H
  ·obtain ⟨hjun, oj, hoj, hall⟩ := mem_ready.1 hj
   have hnot : ∀ e ∈ oj.after, Region.binds .any e = true → e.on ≠ i := fun e he hb heq => by
    have h1 := hall e he hb
    rw [heq, not_listed_of_ready hr] at h1
    cases h1
   have H' : gOp P ops C R S i (fun K a => gOp P ops C R S j (wpAnyG P ops C R S Q fuel ((listed.setIfInBounds i true).setIfInBounds j true)) K a) K a :=
    gOp_mono (fun K a h => h.2 j (ready_mono hj hji)) H
   have h2 := gOp_comm (N' := wpAnyG P ops C R S Q fuel ((listed.setIfInBounds j true).setIfInBounds i true)) hsh hi hoj (hfree j oj hoj hji hjun hnot) (fun cs b => hsel i oi cs b hi) (fun cs b => hsel j oj cs b hoj) hr hj
    (fun K K' a hk h => by rw [Array.setIfInBounds_comm _ _ hji]; exact wpAnyG_same fuel _ K K' a hk h) hC hK hinh H'
   have hfree' : ∀ k ok, ops[k]? = some ok → k ≠ i → (listed.setIfInBounds j true).getD k true = false →
     (∀ e ∈ ok.after, Region.binds .any e = true → e.on ≠ i) → oi.apart ops ok = true := fun k ok hk hki hun hno => by
    refine hfree k ok hk hki ?_ hno
    by_cases hjk : j = k
    ·subst hjk; exact hjun
    ·rw [getD_set_ne true hjk] at hun; exact hun
   exact gOp_mono (fun K' a' h3 => ih (listed.setIfInBounds j true) K' a' (hsh.set hj) h3.1 h3.2.1 hfree' (ready_mono hr (Ne.symm hji)) h3.2.2) (gOp_keep hS hK hj hinh h2)
theorem wpAnyG_lex {Q : Act → World → Prop} (hs : Region.noSelect ops = true) (hC : StableC R C) (hS : StableS R S) : ∀ (l : List Oper) (k : Nat) (listed : Array Bool) (K : Known) (a : Act), Shut ops listed → GoodK R listed K → Inh C K → (∀ j, l[j]? = ops[k + j]?) →
  Region.lexFrom .any ops l.length k listed = true → wpGrow P ops C R S Q k l K a → wpAnyG P ops C R S Q l.length listed K a
 | [], _, _, _, _, _, _, _, _, hB, h => ⟨by simpa [Region.lexFrom] using hB, h⟩
 | o :: l, k, listed, K, a, hsh, hK, hinh, hl, hB, h => by
  have h0 : ops[k]? = some o := by simpa using (hl 0).symm
  simp only [List.length_cons, Region.lexFrom, Bool.and_eq_true] at hB
  obtain ⟨⟨hr, hf⟩, hB'⟩ := hB
  have hr' : k ∈ Region.ready .any ops listed := by simpa using hr
  exact wpAnyG_first h0 (Region.noSelect_spec hs) hC hS l.length listed K a hsh hK hinh (Region.free_spec h0 hf) hr'
   (gOp_mono (fun K' a' hk => wpAnyG_lex hs hC hS l (k + 1) _ K' a' (hsh.set hr') hk.1 hk.2.1 (fun j => by have := hl (j + 1); simpa [Nat.add_assoc, Nat.add_comm 1 j] using this) hB' hk.2.2) (gOp_keep hS hK hr' hinh h))
theorem wp_region_grow (S : Spec) (C : World → Prop) (R : Nat → World → World → Prop) {id : Nat} {Q : Exit → Act → World → Prop} {a : Act} {w : World} {l : List Oper} (hS : StableS R S) (hC : StableC R C) (hm : P.follows .mixedOrders = true)
  (hB : Region.lexB .any l.toArray = true) (hw : C w.drew)
  (h : wpGrow P l.toArray C R S (fun a' w' => Q .normal a' w') 0 l [] a) : (Code.region id l.toArray true).wp P Q a w := by
 simp only [Region.lexB, Bool.and_eq_true] at hB
 have hsh : Shut l.toArray (Array.replicate l.toArray.size false) := by
  intro j o _ hj
  by_cases hl : j < l.length <;> simp [Array.getD, hl] at hj
 refine wp_region_any hm (wpAny_of_grow (Q := fun a' w' => Q .normal a' w') hS hC (fun _ _ h => h) _ _ [] _ _ (fun x hx => by cases hx) hw (fun x hx => by cases hx) ?_)
 have := wpAnyG_lex (Q := fun a' w' => Q .normal a' w') hB.1 hC hS l 0 (Array.replicate l.toArray.size false) [] a hsh (fun x hx => by cases hx) ⟨w.drew, hw, fun x hx => by cases hx⟩ (by simp) (by simpa using hB.2) h
 simpa using this
theorem grow_nil {Q : Act → World → Prop} {i : Nat} {K : Known} {a : Act} (h : ∀ w, C w → allK K w → Q a w) : wpGrow P ops C R S Q i [] K a := h
theorem grow_skip {Q : Act → World → Prop} {i : Nat} {o : Oper} {rest : List Oper} {K : Known} {a : Act} (ho : ops[i]? = some o) (hw : Region.wanted o (yielded ops a.tmps) = false)
  (h : wpGrow P ops C R S Q (i + 1) rest K (a.put o.dst undef)) : wpGrow P ops C R S Q i (o :: rest) K a := by
 show gOp _ _ _ _ _ _ _ _ _
 unfold gOp
 simp only [ho, hw]
 exact h
theorem grow_pure {Q : Act → World → Prop} {i : Nat} {o : Oper} {rest : List Oper} {K : Known} {a : Act} {v : Value} (ho : ops[i]? = some o) (hs : S i = none) (hw : Region.wanted o (yielded ops a.tmps) = true)
  (h1 : ∀ w, C w → knownAt ops K i w → (execOp a.eval o).run P w = .ok (.value v) w) (h : wpGrow P ops C R S Q (i + 1) rest K (a.put o.dst v)) : wpGrow P ops C R S Q i (o :: rest) K a := by
 show gOp _ _ _ _ _ _ _ _ _
 unfold gOp
 simp only [ho, hw, if_true, hs]
 exact ⟨v, h1, h⟩
theorem grow_eff {Q : Act → World → Prop} {i : Nat} {o : Oper} {rest : List Oper} {K : Known} {a : Act} {A : Value → World → Prop} (ho : ops[i]? = some o) (hs : S i = some A) (hw : Region.wanted o (yielded ops a.tmps) = true)
  (h1 : ∀ w, C w → knownAt ops K i w → growAt P (R i) o a A w) (h : ∀ v, Inh C ((i, A v) :: K) → wpGrow P ops C R S Q (i + 1) rest ((i, A v) :: K) (a.put o.dst v)) : wpGrow P ops C R S Q i (o :: rest) K a := by
 show gOp _ _ _ _ _ _ _ _ _
 unfold gOp
 simp only [ho, hw, if_true, hs]
 exact ⟨h1, h⟩
theorem knownAt.get {K : Known} {j : Nat} {w : World} (h : knownAt ops K j w) {i : Nat} {F : World → Prop} (hm : (i, F) ∈ K) (hd : depB ops ops.size j i = true) : F w := h _ hm hd
theorem Inh.head {K : Known} {i : Nat} {F : World → Prop} (h : Inh C ((i, F) :: K)) : ∃ w, C w ∧ F w := by
 obtain ⟨w, hc, hk⟩ := h
 exact ⟨w, hc, hk _ List.mem_cons_self⟩
theorem stableC_keep {F : Nat → Prop} {Fs : Nat → Nat → Prop} (h : ∀ i k, Fs i k → F k) (w : World) : StableC (fun i => Keep (Fs i)) (fun w' => Keep F w w') := fun i _ _ hk he => hk.trans he fun k _ hF => h i k hF
theorem grow_run {Q : Act → World → Prop} {i : Nat} {o : Oper} {rest : List Oper} {K : Known} {a : Act} (ho : ops[i]? = some o) (hs : S i = none) (hw : Region.wanted o (yielded ops a.tmps) = true)
  (h : ∃ v, (∀ w, C w → knownAt ops K i w → (execOp a.eval o).run P w = .ok (.value v) w) ∧ wpGrow P ops C R S Q (i + 1) rest K (a.put o.dst v)) : wpGrow P ops C R S Q i (o :: rest) K a := by
 obtain ⟨v, h1, h2⟩ := h
 exact grow_pure ho hs hw h1 h2
theorem grow_call {A : Value → World → Prop} {Rw : World → Prop} {f : FuncId} {args : Array Value} {w : World} (h : Calls P f args w (fun e w'' => ∃ v, e = .returned v ∧ Rw w'' ∧ A v w'')) : growUpon P Rw A (.ok (.enter f args) w) := h
def specOf (L : List (Nat × (Value → World → Prop))) : Spec := fun i => (L.find? fun x => x.1 == i).map (·.2)
def effOf (L : List (Nat × (Nat → Prop))) (i k : Nat) : Prop := ∃ x ∈ L, x.1 = i ∧ x.2 k
theorem stable_nil : StableS R (specOf []) := fun i A h => by simp [specOf] at h
theorem stable_cons {i : Nat} {A : Value → World → Prop} {L : List (Nat × (Value → World → Prop))} (h : ∀ j, j ≠ i → ∀ v w w', A v w → R j w w' → A v w') (hL : StableS R (specOf L)) : StableS R (specOf ((i, A) :: L)) := by
 intro k B hk j hj v w w' hA he
 by_cases e : i = k
 ·subst e
  simp [specOf] at hk
  subst hk
  exact h j hj v w w' hA he
 ·have : specOf ((i, A) :: L) k = specOf L k := by simp [specOf, e]
  rw [this] at hk
  exact hL k B hk j hj v w w' hA he
end
end Go.Proofs.YtioplgfopillnaaDoor.M
