/- A range over a function whose rounds all end normally: each round is handed what the function has made for it since the caller's last word. No program. -/
import Derived.Test.YtpebphkceipfbaaGrowIn
import Derived.Test.YtpebphkceipfbaaBase
set_option linter.unusedSimpArgs false
set_option linter.unusedVariables false
namespace Go.Proofs.Ytpebphkceipfbaa
open Go.RowKit

/-- The function gives what Gv says; of each thing that it gives, Fact speaks: of the world Wp in which the caller's word held, and of the one in which it is given. -/
def SeqNew {α : Type} (F : Fence) (n : Nat) (P : Program) (g : Nat) (lb : Array Value) (encs : α → Array Value) (Fact : World → World → α → Prop) (Kp : World → World → Prop) (Gv : List α → Prop) (N : Nat) (w : World) : Prop :=
  ∀ (l : Nat) (J : List α → World → Prop) (W : World), Ext w W →
    (∀ s A B, J s A → Ext A B → J s B) →
    (∀ pre x Wp W1, J pre Wp → Ext Wp W1 → Fact Wp W1 x → pre.length < N → YieldAt F (n - 1) P l (encs x) W1 fun e W' => e = .returned (.bool true) ∧ J (pre ++ [x]) W' ∧ Kp W1 W') →
    J [] W →
    CallsIn F n P g (#[.func (.yield l) #[] #[]] ++ lb) W fun e W' => (∃ v, e = .returned v) ∧ ∃ xs, Gv xs ∧ J xs W'

/-- How a round ends. -/
def RoundEnds {α : Type} (B : Nat) (Kp : World → World → Prop) (I : List α → World → Prop) (xs : List α) (W : World) : Exit → Act → World → Prop
  | .normal, _, W' => KeepsFrom B W W' ∧ Kp W W' ∧ I xs W'
  | _, _, _ => False
theorem roundEnds_out {α : Type} {B : Nat} {Kp : World → World → Prop} {I : List α → World → Prop} {xs : List α} {W : World} : ¬ LetsOut (RoundEnds B Kp I xs W) := fun ⟨_, _, h⟩ => h

variable {F : Fence} {n : Nat} {P : Program}
theorem wpIn_range_new {α : Type} {g : Operand} {ps : Array Tmp} {assign body : Code} {Q : Exit → Act → World → Prop} {a : Act} {w : World}
    (hro : F.round = none) (h1 : 1 ≤ n) {gf : Nat} {lb : Array Value} (hg : a.eval g = .func (.func gf) #[] lb) (hFg : F.fn gf) (eg : ∀ args w, (callFunc gf args).run P w = .ok (.enter gf args) w)
    {encs : α → Array Value} {Fact : World → World → α → Prop} {Kp : World → World → Prop} {Gv : List α → Prop} {N : Nat} (hseq : SeqNew F (n - 1) P gf lb encs Fact Kp Gv N w)
    (hKt : ∀ {A B C : World}, Kp A B → Kp B C → Kp A C) (hKb : ∀ (W : World) (o' : Obj), w.heap.size + 1 < W.heap.size → Kp W (W.putObj (w.heap.size + 1) o')) (hps : ∀ x, (encs x).size = ps.size)
    (I : List α → World → Prop) (hIe : ∀ s A B, I s A → Ext A B → I s B) (hIo : ∀ s W o', I s W → w.heap.size + 1 < W.heap.size → I s (W.putObj (w.heap.size + 1) o')) (h0 : I [] w)
    (hFo : ∀ x Wp W o', Fact Wp W x → w.heap.size + 1 < Wp.heap.size → Fact Wp (W.putObj (w.heap.size + 1) o') x)
    (a₁ : α → Act)
    (hassign : ∀ (l : Nat) (x : α) (W : World) (K : Act → World → Prop), K (a₁ x) W →
      assign.wpIn (F.inRound l) (n - 1 - 1) P (Exit.then K (fun _ _ _ => False)) { tmps := (ps.zip (encs x)).foldl (fun t (p, v) => t.setIfInBounds p v) a.tmps, defers := [] } W)
    (hbody : ∀ (l : Nat) (pre : List α) (x : α) (Wp W : World), I pre Wp → w.heap.size + 1 < Wp.heap.size → Keep (· = w.heap.size + 1) Wp W → Fact Wp W x → pre.length < N →
      body.wpIn (F.inRound l) (n - 1 - 1) P (RoundEnds w.heap.size Kp I (pre ++ [x]) W) (a₁ x) W)
    (hdone : ∀ (xs : List α) (W : World), Gv xs → I xs W → W.heap[w.heap.size]? = some (.deferred (some [])) → Q .normal { a with defers := { target := .collected w.heap.size, args := #[] } :: a.defers } W) :
    (Code.rangeFunc g ps assign body).wpIn F n P Q a w := by
  refine wpIn_rangeFunc fun fn hfn => ?_
  rw [hro]
  obtain ⟨mk, hmk⟩ : ∃ mk : LoopState → Loop, mk = fun st => { state := st, pending := none, fn, tmps := a.tmps, params := ps, assign, body, defers := w.heap.size } := ⟨_, rfl⟩
  have hz : (w.alloc (.deferred (some []))).heap.size = w.heap.size + 1 := World.size_alloc _ _
  obtain ⟨V, hV⟩ : ∃ V, (w.alloc (.deferred (some []))).alloc (.loop (mk .ready)) = V := ⟨_, rfl⟩
  have hVl : V.heap[w.heap.size + 1]? = some (.loop (mk .ready)) := by rw [← hV, ← hz]; exact World.alloc_heap_new _ _
  have hVd : V.heap[w.heap.size]? = some (.deferred (some [])) := by
    rw [← hV]; exact (Below.heap_alloc _ _ _ (by rw [hz]; exact Nat.lt_succ_self _)).trans (World.alloc_heap_new w _)
  have hVe : Ext w V := by rw [← hV]; exact ((Keep.refl _ _).alloc _).alloc _
  have got : ∀ {A B : World} {k : Nat} {o : Obj}, Ext A B → A.heap[k]? = some o → B.heap[k]? = some o := fun hE h => (hE.block _ (Array.getElem?_eq_some_iff.1 h).1 id).trans h
  refine ⟨w.heap.size + 1, [{ target := .collected w.heap.size, args := #[] }], V, { target := .fn (.func gf) lb, args := #[.func (.yield (w.heap.size + 1)) #[] #[]] }, V, gf,
    #[.func (.yield (w.heap.size + 1)) #[] #[]] ++ lb, V, ?_, ?_, ?_, ?_, fun _ => h1, ?_⟩
  · rw [← hV, hmk]; exact run_enterLoop_outer _ _ _ _ _
  · simp only [resolve, hg]; simp [go_sem]
  · intro f' hf'; simp [Target.leads] at hf'; subst hf'; exact hFg
  · simp [invoke, go_sem, eg]
  refine (hseq (w.heap.size + 1) (fun pre W => I pre W ∧ W.heap[w.heap.size + 1]? = some (.loop (mk .ready)) ∧ W.heap[w.heap.size]? = some (.deferred (some []))) V hVe
    (fun s A B h hE => ⟨hIe s A B h.1 hE, got hE h.2.1, got hE h.2.2⟩) ?_ ⟨hIe _ _ _ h0 hVe, hVl, hVd⟩).mono ?_
  · rintro pre x Wp W1 ⟨hi, hl, hd⟩ hE hF hlen
    have hl1 := got hE hl
    have hlt := (Array.getElem?_eq_some_iff.1 hl1).1
    have hy := run_yield (P := P) (args := encs x) hl1 (by rw [hmk]; exact hps x)
    have hb := run_beginRound (P := P) hl1 (by rw [hmk])
    rw [hmk] at hy hb
    refine ⟨fn, _, assign, body, hy, roundIn_of_wpIn hfn (hassign _ x W1 _ ⟨_, hb, ?_⟩)⟩
    have hl2 : (W1.putObj (w.heap.size + 1) (.loop (mk .busy))).heap[w.heap.size + 1]? = some (.loop (mk .busy)) := World.putObj_heap_same hlt
    have hk2 : Keep (· = w.heap.size + 1) Wp (W1.putObj (w.heap.size + 1) (.loop (mk .busy))) :=
      Keep.grown (Keep.mono (G := (· = w.heap.size + 1)) hE fun _ _ h => h.elim) (grownBy_putObj' W1 _ _) fun k e _ => by cases e; rfl
    have hd2 : (W1.putObj (w.heap.size + 1) (.loop (mk .busy))).heap[w.heap.size]? = some (.deferred (some [])) := (World.putObj_heap_other (by omega)).trans (got hE hd)
    have hltp := (Array.getElem?_eq_some_iff.1 hl).1
    have hf2 := hFo x Wp W1 (.loop (mk .busy)) hF hltp
    have hp2 := hKb W1 (.loop (mk .busy)) hlt
    rw [hmk] at hl2 hk2 hd2 hf2 hp2
    refine wpIn_mono (hbody (w.heap.size + 1) pre x Wp _ hi hltp hk2 hf2 hlen) ?_
    rintro e a3 W3 hr
    cases e <;> first | exact hr.elim | skip
    obtain ⟨hkf, hkp, hi3⟩ := hr
    have hl3 := hkf.same _ _ (by omega) hl2 rfl
    have hd3 := hkf.same _ _ (by omega) hd2 rfl
    have he := run_endRound (P := P) none hl3
    have hlt3 := (Array.getElem?_eq_some_iff.1 hl3).1
    refine ⟨_, _, he, rfl, ⟨hIo _ _ _ hi3 hlt3, ?_, (World.putObj_heap_other (by omega)).trans hd3⟩, hKt hp2 (hKt hkp (hKb _ _ hlt3))⟩
    rw [hmk]; exact World.putObj_heap_same (Array.getElem?_eq_some_iff.1 hl3).1
  · rintro e W2 ⟨⟨v, rfl⟩, xs, hS, hi, hl, hd⟩
    have he := run_endLoop (P := P) hl (by rw [hmk]; simp)
    refine ⟨_, _, he, ?_⟩
    rw [hmk]
    exact hdone xs _ hS (hIo _ _ _ hi (Array.getElem?_eq_some_iff.1 hl).1) ((World.putObj_heap_other (by omega)).trans hd)
end Go.Proofs.Ytpebphkceipfbaa
