/- RangeNew, SnapD0, FrameC, FrameE: laid together. -/
import Derived.Test.YtihaliffcobacaaGreatDoorSbB11
import Derived.Test.YtihaliffcobacaaGreatDoorSbB1
import Derived.Test.YtihaliffcobacaaGreatDoorSbB22
import Derived.Test.YtihaliffcobacaaGreatDoorSbB7
import Derived.Shelf.Abstract
import Derived.Shelf.RegionOpen
import Derived.WalkKit
import Derived.OwnWalkIn
import Derived.TacticsInMore
import Derived.LoopNIn
import Derived.LoopIn
set_option linter.unusedSimpArgs false
set_option linter.unusedVariables false
set_option maxHeartbeats 25600000
set_option maxRecDepth 20000
namespace Go.Proofs.YtihaliffcobacaaGreatDoor
open Go.RowKit
def SeqNew {α : Type} (F : Fence) (n : Nat) (P : Program) (g : Nat) (lb : Array Value) (encs : α → Array Value) (Fact : World → World → α → Prop) (Kp : World → World → Prop) (Gv : List α → Prop) (N : Nat) (w : World) : Prop :=
 ∀ (l : Nat) (J : List α → World → Prop) (W : World), Ext w W →
  (∀ s A B, J s A → Ext A B → J s B) →
  (∀ pre x Wp W1, J pre Wp → Ext Wp W1 → Fact Wp W1 x → pre.length < N → YieldAt F (n - 1) P l (encs x) W1 fun e W' => e = .returned (.bool true) ∧ J (pre ++ [x]) W' ∧ Kp W1 W') →
  J [] W →
  CallsIn F n P g (#[.func (.yield l) #[] #[]] ++ lb) W fun e W' => (∃ v, e = .returned v) ∧ ∃ xs, Gv xs ∧ J xs W'
def RoundEnds {α : Type} (B : Nat) (Kp : World → World → Prop) (I : List α → World → Prop) (xs : List α) (W : World) : Exit → Act → World → Prop
 | .normal, _, W' => KeepsFrom B W W' ∧ Kp W W' ∧ I xs W'
 | _, _, _ => False
variable {F : Fence} {n : Nat} {P : Program}
theorem wpIn_range_new {α : Type} {g : Operand} {ps : Array Tmp} {assign body : Code} {Q : Exit → Act → World → Prop} {a : Act} {w : World}
  (hro : F.round = none) (h1 : 1 ≤ n) {gf : Nat} {lb : Array Value} (hg : a.eval g = .func (.func gf) #[] lb) (hFg : F.fn gf) (eg : ∀ args w, (callFunc gf args).run P w = .ok (.enter gf args) w)
  {encs : α → Array Value} {Fact : World → World → α → Prop} {Kp : World → World → Prop} {Gv : List α → Prop} {N : Nat} (hseq : SeqNew F (n - 1) P gf lb encs Fact Kp Gv N w)
  (hKt : ∀ {A B C : World}, Kp A B → Kp B C → Kp A C) (hKb : ∀ (W : World) (o' : Obj), w.heap.size + 1 < W.heap.size → Kp W (W.putObj (w.heap.size + 1) o')) (hps : ∀ x, (encs x).size = ps.size)
  (I : List α → World → Prop) (hIe : ∀ s A B, I s A → Ext A B → I s B) (hIo : ∀ s W o', I s W → w.heap.size + 1 < W.heap.size → I s (W.putObj (w.heap.size + 1) o')) (h0 : I [] w)
  (hFo : ∀ x Wp W o', Fact Wp W x → w.heap.size + 1 < Wp.heap.size → Fact Wp (W.putObj (w.heap.size + 1) o') x)
  (a₁ : α → Act)
  (hassign : ∀ (l : Nat) (x : α) (W : World) (K : Act → World → Prop), K (a₁ x) W →
   assign.wpIn (F.inRound l) (n - 1 - 1) P (Exit.then K (fun _ _ _ => False)) { tmps := (ps.zip (encs x)).foldl (fun t (p, v) => t.setIfInBounds p v) a.tmps, defers := [] } W)
  (hbody : ∀ (l : Nat) (pre : List α) (x : α) (Wp W : World), I pre Wp → w.heap.size + 1 < Wp.heap.size → Keep (· = w.heap.size + 1) Wp W → Fact Wp W x → pre.length < N →
   body.wpIn (F.inRound l) (n - 1 - 1) P (RoundEnds w.heap.size Kp I (pre ++ [x]) W) (a₁ x) W)
  (hdone : ∀ (xs : List α) (W : World), Gv xs → I xs W → W.heap[w.heap.size]? = some (.deferred (some [])) → Q .normal { a with defers := { target := .collected w.heap.size, args := #[] } :: a.defers } W) :
  (Code.rangeFunc g ps assign body).wpIn F n P Q a w := by
 refine wpIn_rangeFunc fun fn hfn => ?_
 rw [hro]
 obtain ⟨mk, hmk⟩ : ∃ mk : LoopState → Loop, mk = fun st => { state := st, pending := none, fn, tmps := a.tmps, params := ps, assign, body, defers := w.heap.size } := ⟨_, rfl⟩
 have hz : (w.alloc (.deferred (some []))).heap.size = w.heap.size + 1 := World.size_alloc _ _
 obtain ⟨V, hV⟩ : ∃ V, (w.alloc (.deferred (some []))).alloc (.loop (mk .ready)) = V := ⟨_, rfl⟩
 have hVl : V.heap[w.heap.size + 1]? = some (.loop (mk .ready)) := by rw [← hV, ← hz]; exact World.alloc_heap_new _ _
 have hVd : V.heap[w.heap.size]? = some (.deferred (some [])) := by
  rw [← hV]; exact (Below.heap_alloc _ _ _ (by rw [hz]; exact Nat.lt_succ_self _)).trans (World.alloc_heap_new w _)
 have hVe : Ext w V := by rw [← hV]; exact ((Keep.refl _ _).alloc _).alloc _
 have got : ∀ {A B : World} {k : Nat} {o : Obj}, Ext A B → A.heap[k]? = some o → B.heap[k]? = some o := fun hE h => (hE.block _ (Array.getElem?_eq_some_iff.1 h).1 id).trans h
 refine ⟨w.heap.size + 1, [{ target := .collected w.heap.size, args := #[] }], V, { target := .fn (.func gf) lb, args := #[.func (.yield (w.heap.size + 1)) #[] #[]] }, V, gf,
  #[.func (.yield (w.heap.size + 1)) #[] #[]] ++ lb, V, ?_, ?_, ?_, ?_, fun _ => h1, ?_⟩
 ·rw [← hV, hmk]; exact run_enterLoop_outer _ _ _ _ _
 ·simp only [resolve, hg]; simp [go_sem]
 ·intro f' hf'; simp [Target.leads] at hf'; subst hf'; exact hFg
 ·simp [invoke, go_sem, eg]
 refine (hseq (w.heap.size + 1) (fun pre W => I pre W ∧ W.heap[w.heap.size + 1]? = some (.loop (mk .ready)) ∧ W.heap[w.heap.size]? = some (.deferred (some []))) V hVe
  (fun s A B h hE => ⟨hIe s A B h.1 hE, got hE h.2.1, got hE h.2.2⟩) ?_ ⟨hIe _ _ _ h0 hVe, hVl, hVd⟩).mono ?_
 ·rintro pre x Wp W1 ⟨hi, hl, hd⟩ hE hF hlen
  have hl1 := got hE hl
  have hlt := (Array.getElem?_eq_some_iff.1 hl1).1
  have hy := run_yield (P := P) (args := encs x) hl1 (by rw [hmk]; exact hps x)
  have hb := run_beginRound (P := P) hl1 (by rw [hmk])
  rw [hmk] at hy hb
  refine ⟨fn, _, assign, body, hy, roundIn_of_wpIn hfn (hassign _ x W1 _ ⟨_, hb, ?_⟩)⟩
  have hl2 : (W1.putObj (w.heap.size + 1) (.loop (mk .busy))).heap[w.heap.size + 1]? = some (.loop (mk .busy)) := World.putObj_heap_same hlt
  have hk2 : Keep (· = w.heap.size + 1) Wp (W1.putObj (w.heap.size + 1) (.loop (mk .busy))) :=
   Keep.grown (Keep.mono (G := (· = w.heap.size + 1)) hE fun _ _ h => h.elim) (grownBy_putObj' W1 _ _) fun k e _ => by cases e; rfl
  have hd2 : (W1.putObj (w.heap.size + 1) (.loop (mk .busy))).heap[w.heap.size]? = some (.deferred (some [])) := (World.putObj_heap_other (by omega)).trans (got hE hd)
  have hltp := (Array.getElem?_eq_some_iff.1 hl).1
  have hf2 := hFo x Wp W1 (.loop (mk .busy)) hF hltp
  have hp2 := hKb W1 (.loop (mk .busy)) hlt
  rw [hmk] at hl2 hk2 hd2 hf2 hp2
  refine wpIn_mono (hbody (w.heap.size + 1) pre x Wp _ hi hltp hk2 hf2 hlen) ?_
  rintro e a3 W3 hr
  cases e <;> first | exact hr.elim | skip
  obtain ⟨hkf, hkp, hi3⟩ := hr
  have hl3 := hkf.same _ _ (by omega) hl2 rfl
  have hd3 := hkf.same _ _ (by omega) hd2 rfl
  have he := run_endRound (P := P) none hl3
  have hlt3 := (Array.getElem?_eq_some_iff.1 hl3).1
  refine ⟨_, _, he, rfl, ⟨hIo _ _ _ hi3 hlt3, ?_, (World.putObj_heap_other (by omega)).trans hd3⟩, hKt hp2 (hKt hkp (hKb _ _ hlt3))⟩
  rw [hmk]; exact World.putObj_heap_same (Array.getElem?_eq_some_iff.1 hl3).1
 ·rintro e W2 ⟨⟨v, rfl⟩, xs, hS, hi, hl, hd⟩
  have he := run_endLoop (P := P) hl (by rw [hmk]; simp)
  refine ⟨_, _, he, ?_⟩
  rw [hmk]
  exact hdone xs _ hS (hIo _ _ _ hi (Array.getElem?_eq_some_iff.1 hl).1) ((World.putObj_heap_other (by omega)).trans hd)
def SeqOne (F : Fence) (n : Nat) (P : Program) (g : Nat) (lb enc : Array Value) (w : World) : Prop :=
 ∀ (l : Nat) (W : World) (R : World → Prop), Ext w W → (∀ W1, Ext W W1 → YieldAt F (n - 1) P l enc W1 fun e W' => e = .returned (.bool false) ∧ R W') →
  CallsIn F n P g (#[.func (.yield l) #[] #[]] ++ lb) W fun e W' => (∃ v, e = .returned v) ∧ R W'
def SeqNo (F : Fence) (n : Nat) (P : Program) (g : Nat) (lb : Array Value) (w : World) : Prop :=
 ∀ (l : Nat) (W : World), Ext w W → CallsIn F n P g (#[.func (.yield l) #[] #[]] ++ lb) W fun e W' => (∃ v, e = .returned v) ∧ Ext W W'
def RoundRets (B : Nat) (I : World → Prop) (W : World) : Exit → Act → World → Prop
 | .ret, _, W' => KeepsFrom B W W' ∧ I W'
 | _, _, _ => False
variable {F : Fence} {n : Nat} {P : Program}
theorem wpIn_range_ret {g : Operand} {ps : Array Tmp} {assign body : Code} {Q : Exit → Act → World → Prop} {a : Act} {w : World}
  (hro : F.round = none) (h1 : 1 ≤ n) {gf : Nat} {lb : Array Value} (hg : a.eval g = .func (.func gf) #[] lb) (hFg : F.fn gf) (eg : ∀ args w, (callFunc gf args).run P w = .ok (.enter gf args) w)
  {enc : Array Value} (hseq : SeqOne F (n - 1) P gf lb enc w) (hps : enc.size = ps.size)
  (I : World → Prop) (hIo : ∀ W o', I W → w.heap.size + 1 < W.heap.size → I (W.putObj (w.heap.size + 1) o'))
  (a₁ : Act)
  (hassign : ∀ (l : Nat) (W : World) (K : Act → World → Prop), K a₁ W →
   assign.wpIn (F.inRound l) (n - 1 - 1) P (Exit.then K (fun _ _ _ => False)) { tmps := (ps.zip enc).foldl (fun t (p, v) => t.setIfInBounds p v) a.tmps, defers := [] } W)
  (hbody : ∀ (l : Nat) (W : World), Ext w W → w.heap.size + 1 < W.heap.size → body.wpIn (F.inRound l) (n - 1 - 1) P (RoundRets w.heap.size I W) a₁ W)
  (hdone : ∀ (W : World), I W → W.heap[w.heap.size]? = some (.deferred (some [])) → Code.ret.wpIn F n P Q { a with defers := { target := .collected w.heap.size, args := #[] } :: a.defers } W) :
  (Code.rangeFunc g ps assign body).wpIn F n P Q a w := by
 refine wpIn_rangeFunc fun fn hfn => ?_
 rw [hro]
 obtain ⟨mk, hmk⟩ : ∃ mk : LoopState → Option Code → Loop, mk = fun st p => { state := st, pending := p, fn, tmps := a.tmps, params := ps, assign, body, defers := w.heap.size } := ⟨_, rfl⟩
 have hz : (w.alloc (.deferred (some []))).heap.size = w.heap.size + 1 := World.size_alloc _ _
 obtain ⟨V, hV⟩ : ∃ V, (w.alloc (.deferred (some []))).alloc (.loop (mk .ready none)) = V := ⟨_, rfl⟩
 have hVl : V.heap[w.heap.size + 1]? = some (.loop (mk .ready none)) := by rw [← hV, ← hz]; exact World.alloc_heap_new _ _
 have hVd : V.heap[w.heap.size]? = some (.deferred (some [])) := by
  rw [← hV]; exact (Below.heap_alloc _ _ _ (by rw [hz]; exact Nat.lt_succ_self _)).trans (World.alloc_heap_new w _)
 have hVe : Ext w V := by rw [← hV]; exact ((Keep.refl _ _).alloc _).alloc _
 have got : ∀ {A B : World} {k : Nat} {o : Obj}, Ext A B → A.heap[k]? = some o → B.heap[k]? = some o := fun hE h => (hE.block _ (Array.getElem?_eq_some_iff.1 h).1 id).trans h
 refine ⟨w.heap.size + 1, [{ target := .collected w.heap.size, args := #[] }], V, { target := .fn (.func gf) lb, args := #[.func (.yield (w.heap.size + 1)) #[] #[]] }, V, gf,
  #[.func (.yield (w.heap.size + 1)) #[] #[]] ++ lb, V, ?_, ?_, ?_, ?_, fun _ => h1, ?_⟩
 ·rw [← hV, hmk]; exact run_enterLoop_outer _ _ _ _ _
 ·simp only [resolve, hg]; simp [go_sem]
 ·intro f' hf'; simp [Target.leads] at hf'; subst hf'; exact hFg
 ·simp [invoke, go_sem, eg]
 refine (hseq (w.heap.size + 1) V (fun W => I W ∧ W.heap[w.heap.size + 1]? = some (.loop (mk .done (some .ret))) ∧ W.heap[w.heap.size]? = some (.deferred (some []))) hVe ?_).mono ?_
 ·intro W1 hE
  have hl1 := got hE hVl
  have hlt := (Array.getElem?_eq_some_iff.1 hl1).1
  have hy := run_yield (P := P) (args := enc) hl1 (by rw [hmk]; exact hps)
  have hb := run_beginRound (P := P) hl1 (by rw [hmk])
  rw [hmk] at hy hb
  refine ⟨fn, _, assign, body, hy, roundIn_of_wpIn hfn (hassign _ W1 _ ⟨_, hb, ?_⟩)⟩
  have hl2 : (W1.putObj (w.heap.size + 1) (.loop (mk .busy none))).heap[w.heap.size + 1]? = some (.loop (mk .busy none)) := World.putObj_heap_same hlt
  have hk2 : Ext w (W1.putObj (w.heap.size + 1) (.loop (mk .busy none))) :=
   (hVe.trans hE fun _ _ h => h).trans (Keep.grown (F := (· = w.heap.size + 1)) (Keep.refl _ _) (grownBy_putObj' W1 _ _) fun k e _ => by cases e; rfl) fun k hk e => by omega
  have hd2 : (W1.putObj (w.heap.size + 1) (.loop (mk .busy none))).heap[w.heap.size]? = some (.deferred (some [])) := (World.putObj_heap_other (by omega)).trans (got hE hVd)
  have hlt2 : w.heap.size + 1 < (W1.putObj (w.heap.size + 1) (.loop (mk .busy none))).heap.size := (Array.getElem?_eq_some_iff.1 hl2).1
  rw [hmk] at hl2 hk2 hd2 hlt2
  refine wpIn_mono (hbody (w.heap.size + 1) _ hk2 hlt2) ?_
  rintro e a3 W3 hr
  cases e <;> first | exact hr.elim | skip
  obtain ⟨hkf, hi3⟩ := hr
  have hl3 := hkf.same _ _ (by omega) hl2 rfl
  have hd3 := hkf.same _ _ (by omega) hd2 rfl
  have he := run_endRound (P := P) (some .ret) hl3
  have hlt3 := (Array.getElem?_eq_some_iff.1 hl3).1
  refine ⟨_, _, he, rfl, hIo _ _ hi3 hlt3, ?_, (World.putObj_heap_other (by omega)).trans hd3⟩
  rw [hmk]; exact World.putObj_heap_same (Array.getElem?_eq_some_iff.1 hl3).1
 ·rintro e W2 ⟨⟨v, rfl⟩, hi, hl, hd⟩
  have he := run_endLoop (P := P) hl (by rw [hmk]; simp)
  refine ⟨_, _, he, ?_⟩
  rw [hmk]
  exact hdone _ (hIo _ _ hi (Array.getElem?_eq_some_iff.1 hl).1) ((World.putObj_heap_other (by omega)).trans hd)
theorem wpIn_range_none {g : Operand} {ps : Array Tmp} {assign body : Code} {Q : Exit → Act → World → Prop} {a : Act} {w : World}
  (hro : F.round = none) (h1 : 1 ≤ n) {gf : Nat} {lb : Array Value} (hg : a.eval g = .func (.func gf) #[] lb) (hFg : F.fn gf) (eg : ∀ args w, (callFunc gf args).run P w = .ok (.enter gf args) w)
  (hseq : SeqNo F (n - 1) P gf lb w)
  (hdone : ∀ (W : World), Ext w W → W.heap[w.heap.size]? = some (.deferred (some [])) → Q .normal { a with defers := { target := .collected w.heap.size, args := #[] } :: a.defers } W) :
  (Code.rangeFunc g ps assign body).wpIn F n P Q a w := by
 refine wpIn_rangeFunc fun fn hfn => ?_
 rw [hro]
 obtain ⟨mk, hmk⟩ : ∃ mk : LoopState → Option Code → Loop, mk = fun st p => { state := st, pending := p, fn, tmps := a.tmps, params := ps, assign, body, defers := w.heap.size } := ⟨_, rfl⟩
 have hz : (w.alloc (.deferred (some []))).heap.size = w.heap.size + 1 := World.size_alloc _ _
 obtain ⟨V, hV⟩ : ∃ V, (w.alloc (.deferred (some []))).alloc (.loop (mk .ready none)) = V := ⟨_, rfl⟩
 have hVl : V.heap[w.heap.size + 1]? = some (.loop (mk .ready none)) := by rw [← hV, ← hz]; exact World.alloc_heap_new _ _
 have hVd : V.heap[w.heap.size]? = some (.deferred (some [])) := by
  rw [← hV]; exact (Below.heap_alloc _ _ _ (by rw [hz]; exact Nat.lt_succ_self _)).trans (World.alloc_heap_new w _)
 have hVe : Ext w V := by rw [← hV]; exact ((Keep.refl _ _).alloc _).alloc _
 have got : ∀ {A B : World} {k : Nat} {o : Obj}, Ext A B → A.heap[k]? = some o → B.heap[k]? = some o := fun hE h => (hE.block _ (Array.getElem?_eq_some_iff.1 h).1 id).trans h
 refine ⟨w.heap.size + 1, [{ target := .collected w.heap.size, args := #[] }], V, { target := .fn (.func gf) lb, args := #[.func (.yield (w.heap.size + 1)) #[] #[]] }, V, gf,
  #[.func (.yield (w.heap.size + 1)) #[] #[]] ++ lb, V, ?_, ?_, ?_, ?_, fun _ => h1, ?_⟩
 ·rw [← hV, hmk]; exact run_enterLoop_outer _ _ _ _ _
 ·simp only [resolve, hg]; simp [go_sem]
 ·intro f' hf'; simp [Target.leads] at hf'; subst hf'; exact hFg
 ·simp [invoke, go_sem, eg]
 refine (hseq (w.heap.size + 1) V hVe).mono ?_
 rintro e W2 ⟨⟨v, rfl⟩, hE⟩
 have he := run_endLoop (P := P) (got hE hVl) (by rw [hmk]; simp)
 refine ⟨_, _, he, ?_⟩
 rw [hmk]
 exact hdone _ ((hVe.trans hE fun _ _ h => h).trans (Keep.grown (F := (· = w.heap.size + 1)) (Keep.refl _ _) (grownBy_putObj' W2 _ _) fun k e _ => by cases e; rfl) fun k hk e => by omega) ((World.putObj_heap_other (by omega)).trans (got hE hVd))
def OpenIs (l : List UInt8) (w : World) (e : Ending) (w' : World) : Prop := match openL l with
 | none => e = .returned (.tuple #[.slice none 0 0, .int .i64 0, .int .u16 120]) ∧ Ext w w'
 | some x => ∃ v', e = .returned (.tuple #[v', .int .i64 ((8 + x.length : Nat) : Int), .int .u16 0]) ∧ BytesS w' (fun k => w.heap.size ≤ k) v' x ∧ Ext w w'
theorem OpenIs.no {l : List UInt8} {w w' : World} (h : openL l = none) (hE : Ext w w') : OpenIs l w (.returned (.tuple #[.slice none 0 0, .int .i64 0, .int .u16 120])) w' := by
 unfold OpenIs; rw [h]; exact ⟨rfl, hE⟩
theorem OpenIs.yes {l x : List UInt8} {w w' : World} {v' : Value} (h : openL l = some x) (hv : BytesS w' (fun k => w.heap.size ≤ k) v' x) (hE : Ext w w') : OpenIs l w (.returned (.tuple #[v', .int .i64 ((8 + x.length : Nat) : Int), .int .u16 0])) w' := by
 unfold OpenIs; rw [h]; exact ⟨v', rfl, hv, hE⟩
theorem open_any (v : Value) (l : List UInt8) (S : BS) (w : World) (hv : BytesS w S v l) :
  Calls Tryz.prog 84 #[v] w (OpenIs l w) := by
 obtain ⟨A, c, rfl, h1, h2⟩ := hv.shape
 unfold maxLen at h2
 by_cases hl : l.length < 8
 ·have ho : openL l = none := by unfold openL; rw [if_pos hl]
  go_enter Tryz.func84, Tryz.ntmps84
  go_wp2
  go_ret3
  exact .no ho (Keep.refl _ _)
 have hn := numL_lt l (by omega)
 have hmin : ∀ w, (Builtin.min_ #[3, 3] 3 #[.int .i64 60000, .int .i64 ((l.length : Int) - 8)]).run Tryz.prog w = .ok (.int .i64 ((min 60000 (l.length - 8) : Nat) : Int)) w := by
  intro w
  rw [run_min_int2]
  congr 2
  split <;> omega
 by_cases hbig : min 60000 (l.length - 8) < numL l
 ·have ho : openL l = none := by unfold openL; rw [if_neg hl, if_pos hbig]
  have hl' : 8 ≤ l.length := by omega
  go_enter Tryz.func84, Tryz.ntmps84
  go_wp2_with fail
  refine (number_any _ _ _ _ hv (by omega)).mono ?_
  rintro e w' ⟨rfl, rfl⟩
  generalize numL l = n at *
  generalize min 60000 (l.length - 8) = mn at *
  go_wp2
  go_ret3
  exact .no ho (Keep.refl _ _)
 obtain ⟨n, hnn⟩ : ∃ n, numL l = n := ⟨_, rfl⟩
 obtain ⟨x, hx⟩ : ∃ x, (l.drop 8).take n = x := ⟨_, rfl⟩
 have hxl : x.length = n := by rw [← hx]; simp; omega
 have hn6 : n ≤ 60000 := by omega
 have hn7 : 8 + n ≤ l.length := by omega
 have hin : (n : Int) ≤ 60000 := by omega
 have hmi : ((n : Int)) ≤ ((min 60000 (l.length - 8) : Nat) : Int) := by omega
 generalize min 60000 (l.length - 8) = mn at *
 have HN := hid hnn
 have HX := hid hx
 have HXL := hid hxl
 obtain ⟨A8, hs8, hv8⟩ := cut_fact (P := Tryz.prog) EU8.ok ty_u8 hv (lo := 8) (hi := 8 + n) (a := 8) (b := 8 + (n : Int)) rfl (by omega) (by omega) hn7
 obtain ⟨A4, hs4, hv4⟩ := tail_fact (P := Tryz.prog) EU8.ok ty_u8 hv (lo := 4) (a := 4) rfl (by omega)
 rw [show ((l.take (8 + n)).drop 8) = x from by rw [← hx, List.drop_take, Nat.add_sub_cancel_left]] at hv8
 rw [Nat.add_sub_cancel_left] at hs8 hv8
 have HV8 := hid hv8
 have HV4 := hid hv4
 have HV := hid hv
 clear hbig hn hx hxl hv4 hv8
 go_enter Tryz.func84, Tryz.ntmps84
 go_wp2_with fail
 refine (number_any _ _ _ _ hv (by omega)).mono ?_
 rintro e w' ⟨rfl, rfl⟩
 rw [hnn]
 clear hnn hv
 go_wp2_with fail
 obtain ⟨m4, hm4⟩ : ∃ m4, numL (l.drop 4) = m4 := ⟨_, rfl⟩
 obtain ⟨s, hs⟩ : ∃ s, (sumOf (l.take 4 ++ x)).toNat = s := ⟨_, rfl⟩
 have ho : openL l = if m4 ≠ s then none else some x := by
  unfold openL
  rw [if_neg hl, HN.out, HX.out, hm4, hs, if_neg (by have := hmin w; rw [run_min_int2] at this; injection this with this; injection this with _ this; split at this <;> omega)]
 have HM4 := hid hm4
 have HSS := hid hs
 have HO := hid ho
 obtain ⟨hsf, hvf⟩ := front_fact (P := Tryz.prog) EU8.ok ty_u8 HV.out (hi := 4) (b := 4) rfl (by omega)
 have HT := hid hvf
 clear hm4 hs ho hvf hmin
 refine wp_region_grow (specOf [(2, fun v w' => v = .int .u32 (m4 : Int)), (6, fun v w' => SlShape EBytes w' (fun _ => True) v 2 [l.take 4, x]), (7, fun v w' => v = .int .u32 (s : Int))])
  (fun w' => Ext w w') ?_ (stableC_ext _) (by kernel_rfl) (by kernel_rfl) (Keep.drew (Keep.refl _ _)) ?_
 ·exact stable_cons (fun v w w' h he => h) (stable_cons (fun v w w' h he => h.ext EBytes.ok he) (stable_cons (fun v w w' h he => h) stable_nil))
 iterate 2
  (try simp only [Act.put, sqa, sqb, sqc])
  refine grow_run rfl rfl rfl ?_
  apply Exists.intro
  refine ⟨fun w' hC hK => ?_, ?_⟩
  ·go_simp
   rfl
 (try simp only [Act.put, sqa, sqb, sqc])
 refine grow_eff rfl rfl rfl (fun w' hC hK => ?_) (fun v2 hv2 => ?_)
 ·unfold growAt
  go_simp
  refine grow_call ((number_any _ _ _ _ (HV4.out.ext EU8.ok hC) (by simp; omega)).mono ?_)
  rintro e w'' ⟨rfl, rfl⟩
  exact ⟨_, rfl, Keep.refl _ _, by rw [HM4.out]⟩
 obtain rfl : v2 = .int .u32 (m4 : Int) := hv2.head.elim fun _ h => h.2
 clear hv2
 iterate 3
  (try simp only [Act.put, sqa, sqb, sqc])
  refine grow_run rfl rfl rfl ?_
  apply Exists.intro
  refine ⟨fun w' hC hK => ?_, ?_⟩
  ·go_simp
   rfl
 (try simp only [Act.put, sqa, sqb, sqc])
 refine grow_eff rfl rfl rfl (fun w' hC hK => ?_) (fun v6 hv6 => ?_)
 ·unfold growAt
  go_simp
  exact ⟨(Keep.refl _ _).alloc _, _, _, rfl, (sl_two (bytes_any (HT.out.ext EU8.ok hC)) (bytes_any (HV8.out.ext EU8.ok hC))).more EBytes.ok fun _ _ _ => trivial⟩
 obtain ⟨_, _, A6, c6, rfl, _⟩ := hv6.head
 clear hv6
 (try simp only [Act.put, sqa, sqb, sqc])
 refine grow_eff rfl rfl rfl (fun w' hC hK => ?_) (fun v7 hv7 => ?_)
 ·unfold growAt
  go_simp
  obtain ⟨_, _, e7, f7⟩ : SlShape EBytes w' (fun _ => True) (.slice A6 2 c6) 2 [l.take 4, x] := hK.get (i := 6) List.mem_cons_self (by kernel_rfl)
  refine grow_call ((sum_any _ _ _ _ (bytess_of_S f7)).mono ?_)
  rintro e w'' ⟨rfl, hE⟩
  exact ⟨_, rfl, hE, by rw [← HSS.out]; simp [U32]⟩
 obtain rfl : v7 = .int .u32 (s : Int) := hv7.head.elim fun _ h => h.2
 clear hv7
 by_cases hq : m4 = s
 ·subst hq
  iterate 1
   (try simp only [Act.put, sqa, sqb, sqc])
   refine grow_run rfl rfl rfl ?_
   apply Exists.intro
   refine ⟨fun w' hC hK => ?_, ?_⟩
   ·go_simp
    rfl
  refine grow_nil fun w6 hC _ => ?_
  have HC := hid hC
  clear hC
  go_wp2_with fail
  have hx6 : x.length ≤ 140737488355328 := by have := HXL.out; omega
  refine (clone_bytes _ _ _ _ (HV8.out.ext EU8.ok HC.out) hx6).mono ?_
  rintro e w7 ⟨v7, rfl, hv7, hE7⟩
  have hz := HC.out.size
  have H7 := hid (hv7.more (S' := fun k => w.heap.size ≤ k) EU8.ok fun k _ h => by omega)
  have HE := hid (HC.out.ext hE7)
  obtain ⟨A7, c7, rfl, _⟩ := hv7.shape
  clear hv7 hE7
  go_wp2
  go_ret3
  have := OpenIs.yes (w := w) (by rw [HO.out, if_neg (by simp)]) H7.out HE.out
  rw [show ((8 + x.length : Nat) : Int) = 8 + (n : Int) from by have := HXL.out; omega] at this
  simpa using this
 ·skip
  iterate 1
   (try simp only [Act.put, sqa, sqb, sqc])
   refine grow_run rfl rfl rfl ?_
   apply Exists.intro
   refine ⟨fun w' hC hK => ?_, ?_⟩
   ·go_simp
    rfl
  refine grow_nil fun w6 hC _ => ?_
  have HC := hid hC
  clear hC
  go_wp2
  go_ret3
  exact .no (by rw [HO.out, if_pos hq]) HC.out
end Go.Proofs.YtihaliffcobacaaGreatDoor
namespace Go.Proofs.YtihaliffcobacaaGreatDoor
open Go.RowKit Go.Shelf
attribute [local go_sem] Oper.semAt_some
def framesL (p : Nat) (b : List UInt8) : List (Nat × List UInt8) :=
 match h : openL b with
 | none => []
 | some x => (p + (8 + x.length), x) :: framesL (p + (8 + x.length)) (b.drop (8 + x.length))
termination_by b.length
decreasing_by have := openL_length h; simp; omega
theorem framesL_none {b : List UInt8} (p : Nat) (h : openL b = none) : framesL p b = [] := by
 rw [framesL]; split
 ·rfl
 ·rename_i x hx; rw [h] at hx; cases hx
theorem framesL_some {b x : List UInt8} (p : Nat) (h : openL b = some x) : framesL p b = (p + (8 + x.length), x) :: framesL (p + (8 + x.length)) (b.drop (8 + x.length)) := by
 rw [framesL]; split
 ·rename_i hx; rw [h] at hx; cases hx
 ·rename_i y hy; rw [h] at hy; injection hy with hy; subst hy; rfl
theorem framesL_length (n : Nat) : ∀ (p : Nat) (b : List UInt8), b.length ≤ n → (framesL p b).length ≤ b.length := by
 induction n with
 | zero => intro p b h; cases ho : openL b with
  | none => rw [framesL_none p ho]; exact Nat.zero_le _
  | some x => have := openL_length ho; omega
 | succ n ih => intro p b h; cases ho : openL b with
  | none => rw [framesL_none p ho]; exact Nat.zero_le _
  | some x =>
   have h1 := openL_length ho
   have h2 := ih (p + (8 + x.length)) (b.drop (8 + x.length)) (by simp; omega)
   rw [framesL_some p ho, List.length_cons]
   simp only [List.length_drop] at h2
   omega
theorem scan_frames (n : Nat) : ∀ (p : Nat) (b : List UInt8), b.length ≤ n → (framesL p b).map (·.2) = (scanL b).1 ∧ ((framesL p b).map (·.1)).getLastD p = p + (scanL b).2 := by
 induction n with
 | zero => intro p b h; cases ho : openL b with
  | none => rw [framesL_none p ho, scanL_none ho]; exact ⟨rfl, rfl⟩
  | some x => have := openL_length ho; omega
 | succ n ih => intro p b h; cases ho : openL b with
  | none => rw [framesL_none p ho, scanL_none ho]; exact ⟨rfl, rfl⟩
  | some x =>
   have h1 := openL_length ho
   have h2 := ih (p + (8 + x.length)) (b.drop (8 + x.length)) (by simp; omega)
   rw [framesL_some p ho, scanL_some ho]
   refine ⟨by rw [List.map_cons, h2.1], ?_⟩
   rw [List.map_cons, List.getLastD_cons, h2.2]
   show p + (8 + x.length) + _ = p + (8 + x.length + _)
   omega
structure Fr where
 p : Nat
 A : Option Addr
 c : Nat
 x : List UInt8
abbrev Fr.v (f : Fr) : Value := .slice f.A f.x.length f.c
def Fr.enc (f : Fr) : Array Value := #[.int .i64 (f.p : Int), f.v]
def Fr.kv (f : Fr) : Nat × List UInt8 := (f.p, f.x)
def Fr.Made (Wp W : World) (f : Fr) : Prop := BytesS W (fun k => Wp.heap.size ≤ k) f.v f.x
def OpenSet (b : List UInt8) (Wp wr : World) (x n e : Value) : Prop := match openL b with
 | none => x = .slice none 0 0 ∧ n = .int .i64 0 ∧ e = .int .u16 120
 | some y => ∃ A c, x = .slice A y.length c ∧ n = .int .i64 ((8 + y.length : Nat) : Int) ∧ e = .int .u16 0 ∧ BytesS wr (fun k => Wp.heap.size ≤ k) (.slice A y.length c) y
theorem open_set (v : Value) (l : List UInt8) (S : BS) (w : World) (hv : BytesS w S v l) :
  Calls Tryz.prog 84 #[v] w fun e w' => ∃ x n c, e = .returned (.tuple #[x, n, c]) ∧ OpenSet l w w' x n c ∧ Ext w w' :=
 (open_any v l S w hv).mono fun e w' h => by
  unfold OpenIs at h
  unfold OpenSet
  cases ho : openL l with
  | none => rw [ho] at h; obtain ⟨rfl, hE⟩ := h; exact ⟨_, _, _, rfl, ⟨rfl, rfl, rfl⟩, hE⟩
  | some y => rw [ho] at h; obtain ⟨v', rfl, hb, hE⟩ := h; obtain ⟨A, c, rfl, _⟩ := hb.shape; exact ⟨_, _, _, rfl, ⟨_, _, rfl, rfl, rfl, hb⟩, hE⟩
abbrev EKp (vb : Nat) (S : BS) : World → World → Prop := Keep (fun k => k ≠ vb ∧ ¬ S k)
set_option maxRecDepth 100000 in
theorem each_all (m vb : Nat) (w : World) (S : BS) (v : Value) (b : List UInt8) (hm : 1 ≤ m) (hvb : Blk w vb 46 #[v]) (hv : BytesS w S v b) (hS : ∀ k, S k → k < w.heap.size) :
  SeqNew Fence.wide m Tryz.prog 83 #[.pointer (some ⟨vb, 0, none⟩)] Fr.enc Fr.Made (EKp vb S) (fun xs => xs.map Fr.kv = framesL 0 b) (framesL 0 b).length w := by
 intro l J W hW hJ hY h0
 obtain ⟨A, c, rfl, hlc, hcm⟩ := hv.shape
 unfold maxLen at hcm
 have hb := hvb.keep hW id
 have q0 : W.cell? ⟨vb, 0, none⟩ = some (.slice A b.length c) := hb.cell 0
 have HV := hid (hv.ext EU8.ok hW)
 have HB := hid hb
 have HJ := hid hJ
 have HY := hid hY
 clear hv hvb hJ hY hb hW hS
 refine callsIn_of_wp Tryz.func83 rfl trivial ?_ rfl
 simp only [Tryz.ntmps83, List.size_toArray, List.length_cons, List.length_nil, Nat.reduceAdd, Nat.reduceSub, Array.replicate_succ, Array.replicate_zero, List.push_toArray, List.append_toArray, List.nil_append, List.cons_append]
 gi_wp2_with fail
 refine ⟨trivial, (callsIn_wide.2 (open_set _ _ _ _ HV.out)).mono ?_⟩
 rintro e w1 ⟨x, n, cc, rfl, hset, hE⟩
 have HSET := hid hset
 have HE1 := hid hE
 clear hset hE q0
 gi_wp2_with fail
 gi_loopw [3, 4, 5, 6] (fun p x n e wr => ∃ (pre : List Fr) (at_ : Nat) (Wp : World), at_ ≤ b.length ∧ p = .int .i64 (at_ : Int) ∧ pre.map Fr.kv ++ framesL at_ (b.drop at_) = framesL 0 b ∧ J pre Wp ∧ Ext Wp wr ∧ EKp vb S W wr ∧ OpenSet (b.drop at_) Wp wr x n e)
  (fun p _ _ _ wr => b.length - (intOf p).toNat)
 case atStart => exact ⟨[], 0, W, Nat.zero_le _, rfl, by simp, h0, HE1.out, HE1.out.mono fun _ _ h => h.elim, by simpa using HSET.out⟩
 case round =>
  obtain ⟨pre, at_, Wp, hat, rfl, hpre, hJp, hEp, hKp, hset⟩ := hrel
  unfold OpenSet at hset
  cases ho : openL (b.drop at_) with
  | none =>
   rw [ho] at hset
   obtain ⟨rfl, rfl, rfl⟩ := hset
   have hJr := HJ.out _ _ _ hJp hEp
   rw [framesL_none _ ho, List.append_nil] at hpre
   have HP := hid hpre
   have HJR := hid hJr
   clear hpre hJr hJp hEp hKp ho
   gi_wp2
   go_end0
   exact ⟨⟨_, rfl⟩, pre, HP.out, HJR.out⟩
  | some y =>
   rw [ho] at hset
   obtain ⟨A1, c1, rfl, rfl, rfl, hby⟩ := hset
   have hyl := (openL_length ho).1
   rw [List.length_drop] at hyl
   have hpl : at_ + (8 + y.length) ≤ b.length := by omega
   rw [framesL_some _ ho] at hpre
   have hlen : pre.length < (framesL 0 b).length := by rw [← hpre, List.length_append, List.length_cons, List.length_map]; omega
   obtain ⟨fn, tmps, assign, body, hy, hR⟩ := HY.out pre ⟨at_ + (8 + y.length), A1, c1, y⟩ Wp wr hJp hEp hby hlen
   simp only [Fr.enc] at hy
   rw [show ((at_ + (8 + y.length) : Nat) : Int) = (at_ : Int) + (8 + (y.length : Int)) from by omega] at hy
   rw [List.drop_drop] at hpre
   have HP := hid hpre
   have HK := hid hKp
   have HR := hid hR
   clear hpre hlen hJp hEp hKp hby ho hR
   gi_wp2_with fail
   refine HR.out.mono ?_
   rintro e W' ⟨rfl, hJ', hk'⟩
   have hK2 : EKp vb S W W' := HK.out.trans hk' fun _ _ h => h
   have q0 : W'.cell? ⟨vb, 0, none⟩ = some (.slice A b.length c) := (HB.out.keep hK2 (fun h => h.1 rfl)).cell 0
   have hv2 := HV.out.keep EU8.ok hK2 fun k hk h => h.2 hk
   obtain ⟨A4, hs4, hv4⟩ := tail_fact (P := Tryz.prog) EU8.ok ty_u8 hv2 (lo := at_ + (8 + y.length)) (a := (at_ : Int) + (8 + (y.length : Int))) (by omega) (by omega)
   have HJ2 := hid hJ'
   have HK2 := hid hK2
   have HV4 := hid hv4
   clear hJ' hk' hK2 hv2 hv4 HR HK hy
   gi_wp2_with fail
   refine ⟨trivial, (callsIn_wide.2 (open_set _ _ _ _ HV4.out)).mono ?_⟩
   rintro e w2 ⟨x2, n2, e2, rfl, hset2, hE2⟩
   have HSET2 := hid hset2
   have HE2 := hid hE2
   clear hset2 hE2 q0 hs4
   gi_wp2_with fail
   go_roundw
   case rel => exact ⟨pre ++ [⟨at_ + (8 + y.length), A1, c1, y⟩], at_ + (8 + y.length), W', hpl, by go_num, by rw [List.map_append, List.append_assoc]; exact HP.out, HJ2.out, HE2.out, HK2.out.ext HE2.out, HSET2.out⟩
   case measure => simp [intOf]; omega
end Go.Proofs.YtihaliffcobacaaGreatDoor
