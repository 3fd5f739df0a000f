/- SnapD0, FrameC, FrameE, FrameS: laid together. -/
import Derived.Test.YtihaliffcobacaaGreatDoorSaB21
import Derived.Test.YtihaliffcobacaaGreatDoorSaB19
import Derived.Test.YtihaliffcobacaaGreatDoorSaB6
import Derived.Shelf.Abstract
import Derived.Shelf.RegionOpen
import Derived.WalkKit
import Derived.OwnWalkIn
import Derived.TacticsInMore
import Derived.LoopNIn
import Derived.LoopIn
import Derived.Test.YtihaliffcobacaaGreatDoorSaB3
set_option linter.unusedSimpArgs false
set_option linter.unusedVariables false
set_option maxHeartbeats 25600000
set_option maxRecDepth 20000
namespace Go.Proofs.YtihaliffcobacaaGreatDoor
open Go.RowKit
def SeqOne (F : Fence) (n : Nat) (P : Program) (g : Nat) (lb enc : Array Value) (w : World) : Prop :=
 ∀ (l : Nat) (W : World) (R : World → Prop), Ext w W → (∀ W1, Ext W W1 → YieldAt F (n - 1) P l enc W1 fun e W' => e = .returned (.bool false) ∧ R W') →
  CallsIn F n P g (#[.func (.yield l) #[] #[]] ++ lb) W fun e W' => (∃ v, e = .returned v) ∧ R W'
def SeqNo (F : Fence) (n : Nat) (P : Program) (g : Nat) (lb : Array Value) (w : World) : Prop :=
 ∀ (l : Nat) (W : World), Ext w W → CallsIn F n P g (#[.func (.yield l) #[] #[]] ++ lb) W fun e W' => (∃ v, e = .returned v) ∧ Ext W W'
def RoundRets (B : Nat) (I : World → Prop) (W : World) : Exit → Act → World → Prop
 | .ret, _, W' => KeepsFrom B W W' ∧ I W'
 | _, _, _ => False
variable {F : Fence} {n : Nat} {P : Program}
theorem wpIn_range_ret {g : Operand} {ps : Array Tmp} {assign body : Code} {Q : Exit → Act → World → Prop} {a : Act} {w : World}
  (hro : F.round = none) (h1 : 1 ≤ n) {gf : Nat} {lb : Array Value} (hg : a.eval g = .func (.func gf) #[] lb) (hFg : F.fn gf) (eg : ∀ args w, (callFunc gf args).run P w = .ok (.enter gf args) w)
  {enc : Array Value} (hseq : SeqOne F (n - 1) P gf lb enc w) (hps : enc.size = ps.size)
  (I : World → Prop) (hIo : ∀ W o', I W → w.heap.size + 1 < W.heap.size → I (W.putObj (w.heap.size + 1) o'))
  (a₁ : Act)
  (hassign : ∀ (l : Nat) (W : World) (K : Act → World → Prop), K a₁ W →
   assign.wpIn (F.inRound l) (n - 1 - 1) P (Exit.then K (fun _ _ _ => False)) { tmps := (ps.zip enc).foldl (fun t (p, v) => t.setIfInBounds p v) a.tmps, defers := [] } W)
  (hbody : ∀ (l : Nat) (W : World), Ext w W → w.heap.size + 1 < W.heap.size → body.wpIn (F.inRound l) (n - 1 - 1) P (RoundRets w.heap.size I W) a₁ W)
  (hdone : ∀ (W : World), I W → W.heap[w.heap.size]? = some (.deferred (some [])) → Code.ret.wpIn F n P Q { a with defers := { target := .collected w.heap.size, args := #[] } :: a.defers } W) :
  (Code.rangeFunc g ps assign body).wpIn F n P Q a w := by
 refine wpIn_rangeFunc fun fn hfn => ?_
 rw [hro]
 obtain ⟨mk, hmk⟩ : ∃ mk : LoopState → Option Code → Loop, mk = fun st p => { state := st, pending := p, fn, tmps := a.tmps, params := ps, assign, body, defers := w.heap.size } := ⟨_, rfl⟩
 have hz : (w.alloc (.deferred (some []))).heap.size = w.heap.size + 1 := World.size_alloc _ _
 obtain ⟨V, hV⟩ : ∃ V, (w.alloc (.deferred (some []))).alloc (.loop (mk .ready none)) = V := ⟨_, rfl⟩
 have hVl : V.heap[w.heap.size + 1]? = some (.loop (mk .ready none)) := by rw [← hV, ← hz]; exact World.alloc_heap_new _ _
 have hVd : V.heap[w.heap.size]? = some (.deferred (some [])) := by
  rw [← hV]; exact (Below.heap_alloc _ _ _ (by rw [hz]; exact Nat.lt_succ_self _)).trans (World.alloc_heap_new w _)
 have hVe : Ext w V := by rw [← hV]; exact ((Keep.refl _ _).alloc _).alloc _
 have got : ∀ {A B : World} {k : Nat} {o : Obj}, Ext A B → A.heap[k]? = some o → B.heap[k]? = some o := fun hE h => (hE.block _ (Array.getElem?_eq_some_iff.1 h).1 id).trans h
 refine ⟨w.heap.size + 1, [{ target := .collected w.heap.size, args := #[] }], V, { target := .fn (.func gf) lb, args := #[.func (.yield (w.heap.size + 1)) #[] #[]] }, V, gf,
  #[.func (.yield (w.heap.size + 1)) #[] #[]] ++ lb, V, ?_, ?_, ?_, ?_, fun _ => h1, ?_⟩
 ·rw [← hV, hmk]; exact run_enterLoop_outer _ _ _ _ _
 ·simp only [resolve, hg]; simp [go_sem]
 ·intro f' hf'; simp [Target.leads] at hf'; subst hf'; exact hFg
 ·simp [invoke, go_sem, eg]
 refine (hseq (w.heap.size + 1) V (fun W => I W ∧ W.heap[w.heap.size + 1]? = some (.loop (mk .done (some .ret))) ∧ W.heap[w.heap.size]? = some (.deferred (some []))) hVe ?_).mono ?_
 ·intro W1 hE
  have hl1 := got hE hVl
  have hlt := (Array.getElem?_eq_some_iff.1 hl1).1
  have hy := run_yield (P := P) (args := enc) hl1 (by rw [hmk]; exact hps)
  have hb := run_beginRound (P := P) hl1 (by rw [hmk])
  rw [hmk] at hy hb
  refine ⟨fn, _, assign, body, hy, roundIn_of_wpIn hfn (hassign _ W1 _ ⟨_, hb, ?_⟩)⟩
  have hl2 : (W1.putObj (w.heap.size + 1) (.loop (mk .busy none))).heap[w.heap.size + 1]? = some (.loop (mk .busy none)) := World.putObj_heap_same hlt
  have hk2 : Ext w (W1.putObj (w.heap.size + 1) (.loop (mk .busy none))) :=
   (hVe.trans hE fun _ _ h => h).trans (Keep.grown (F := (· = w.heap.size + 1)) (Keep.refl _ _) (grownBy_putObj' W1 _ _) fun k e _ => by cases e; rfl) fun k hk e => by omega
  have hd2 : (W1.putObj (w.heap.size + 1) (.loop (mk .busy none))).heap[w.heap.size]? = some (.deferred (some [])) := (World.putObj_heap_other (by omega)).trans (got hE hVd)
  have hlt2 : w.heap.size + 1 < (W1.putObj (w.heap.size + 1) (.loop (mk .busy none))).heap.size := (Array.getElem?_eq_some_iff.1 hl2).1
  rw [hmk] at hl2 hk2 hd2 hlt2
  refine wpIn_mono (hbody (w.heap.size + 1) _ hk2 hlt2) ?_
  rintro e a3 W3 hr
  cases e <;> first | exact hr.elim | skip
  obtain ⟨hkf, hi3⟩ := hr
  have hl3 := hkf.same _ _ (by omega) hl2 rfl
  have hd3 := hkf.same _ _ (by omega) hd2 rfl
  have he := run_endRound (P := P) (some .ret) hl3
  have hlt3 := (Array.getElem?_eq_some_iff.1 hl3).1
  refine ⟨_, _, he, rfl, hIo _ _ hi3 hlt3, ?_, (World.putObj_heap_other (by omega)).trans hd3⟩
  rw [hmk]; exact World.putObj_heap_same (Array.getElem?_eq_some_iff.1 hl3).1
 ·rintro e W2 ⟨⟨v, rfl⟩, hi, hl, hd⟩
  have he := run_endLoop (P := P) hl (by rw [hmk]; simp)
  refine ⟨_, _, he, ?_⟩
  rw [hmk]
  exact hdone _ (hIo _ _ hi (Array.getElem?_eq_some_iff.1 hl).1) ((World.putObj_heap_other (by omega)).trans hd)
theorem wpIn_range_none {g : Operand} {ps : Array Tmp} {assign body : Code} {Q : Exit → Act → World → Prop} {a : Act} {w : World}
  (hro : F.round = none) (h1 : 1 ≤ n) {gf : Nat} {lb : Array Value} (hg : a.eval g = .func (.func gf) #[] lb) (hFg : F.fn gf) (eg : ∀ args w, (callFunc gf args).run P w = .ok (.enter gf args) w)
  (hseq : SeqNo F (n - 1) P gf lb w)
  (hdone : ∀ (W : World), Ext w W → W.heap[w.heap.size]? = some (.deferred (some [])) → Q .normal { a with defers := { target := .collected w.heap.size, args := #[] } :: a.defers } W) :
  (Code.rangeFunc g ps assign body).wpIn F n P Q a w := by
 refine wpIn_rangeFunc fun fn hfn => ?_
 rw [hro]
 obtain ⟨mk, hmk⟩ : ∃ mk : LoopState → Option Code → Loop, mk = fun st p => { state := st, pending := p, fn, tmps := a.tmps, params := ps, assign, body, defers := w.heap.size } := ⟨_, rfl⟩
 have hz : (w.alloc (.deferred (some []))).heap.size = w.heap.size + 1 := World.size_alloc _ _
 obtain ⟨V, hV⟩ : ∃ V, (w.alloc (.deferred (some []))).alloc (.loop (mk .ready none)) = V := ⟨_, rfl⟩
 have hVl : V.heap[w.heap.size + 1]? = some (.loop (mk .ready none)) := by rw [← hV, ← hz]; exact World.alloc_heap_new _ _
 have hVd : V.heap[w.heap.size]? = some (.deferred (some [])) := by
  rw [← hV]; exact (Below.heap_alloc _ _ _ (by rw [hz]; exact Nat.lt_succ_self _)).trans (World.alloc_heap_new w _)
 have hVe : Ext w V := by rw [← hV]; exact ((Keep.refl _ _).alloc _).alloc _
 have got : ∀ {A B : World} {k : Nat} {o : Obj}, Ext A B → A.heap[k]? = some o → B.heap[k]? = some o := fun hE h => (hE.block _ (Array.getElem?_eq_some_iff.1 h).1 id).trans h
 refine ⟨w.heap.size + 1, [{ target := .collected w.heap.size, args := #[] }], V, { target := .fn (.func gf) lb, args := #[.func (.yield (w.heap.size + 1)) #[] #[]] }, V, gf,
  #[.func (.yield (w.heap.size + 1)) #[] #[]] ++ lb, V, ?_, ?_, ?_, ?_, fun _ => h1, ?_⟩
 ·rw [← hV, hmk]; exact run_enterLoop_outer _ _ _ _ _
 ·simp only [resolve, hg]; simp [go_sem]
 ·intro f' hf'; simp [Target.leads] at hf'; subst hf'; exact hFg
 ·simp [invoke, go_sem, eg]
 refine (hseq (w.heap.size + 1) V hVe).mono ?_
 rintro e W2 ⟨⟨v, rfl⟩, hE⟩
 have he := run_endLoop (P := P) (got hE hVl) (by rw [hmk]; simp)
 refine ⟨_, _, he, ?_⟩
 rw [hmk]
 exact hdone _ ((hVe.trans hE fun _ _ h => h).trans (Keep.grown (F := (· = w.heap.size + 1)) (Keep.refl _ _) (grownBy_putObj' W2 _ _) fun k e _ => by cases e; rfl) fun k hk e => by omega) ((World.putObj_heap_other (by omega)).trans (got hE hVd))
def OpenIs (l : List UInt8) (w : World) (e : Ending) (w' : World) : Prop := match openL l with
 | none => e = .returned (.tuple #[.slice none 0 0, .int .i64 0, .int .u16 120]) ∧ Ext w w'
 | some x => ∃ v', e = .returned (.tuple #[v', .int .i64 ((8 + x.length : Nat) : Int), .int .u16 0]) ∧ BytesS w' (fun k => w.heap.size ≤ k) v' x ∧ Ext w w'
theorem OpenIs.no {l : List UInt8} {w w' : World} (h : openL l = none) (hE : Ext w w') : OpenIs l w (.returned (.tuple #[.slice none 0 0, .int .i64 0, .int .u16 120])) w' := by
 unfold OpenIs; rw [h]; exact ⟨rfl, hE⟩
theorem OpenIs.yes {l x : List UInt8} {w w' : World} {v' : Value} (h : openL l = some x) (hv : BytesS w' (fun k => w.heap.size ≤ k) v' x) (hE : Ext w w') : OpenIs l w (.returned (.tuple #[v', .int .i64 ((8 + x.length : Nat) : Int), .int .u16 0])) w' := by
 unfold OpenIs; rw [h]; exact ⟨v', rfl, hv, hE⟩
theorem open_any (v : Value) (l : List UInt8) (S : BS) (w : World) (hv : BytesS w S v l) :
  Calls Tryz.prog 84 #[v] w (OpenIs l w) := by
 obtain ⟨A, c, rfl, h1, h2⟩ := hv.shape
 unfold maxLen at h2
 by_cases hl : l.length < 8
 ·have ho : openL l = none := by unfold openL; rw [if_pos hl]
  go_enter Tryz.func84, Tryz.ntmps84
  go_wp2
  go_ret3
  exact .no ho (Keep.refl _ _)
 have hn := numL_lt l (by omega)
 have hmin : ∀ w, (Builtin.min_ #[3, 3] 3 #[.int .i64 60000, .int .i64 ((l.length : Int) - 8)]).run Tryz.prog w = .ok (.int .i64 ((min 60000 (l.length - 8) : Nat) : Int)) w := by
  intro w
  rw [run_min_int2]
  congr 2
  split <;> omega
 by_cases hbig : min 60000 (l.length - 8) < numL l
 ·have ho : openL l = none := by unfold openL; rw [if_neg hl, if_pos hbig]
  have hl' : 8 ≤ l.length := by omega
  go_enter Tryz.func84, Tryz.ntmps84
  go_wp2_with fail
  refine (number_any _ _ _ _ hv (by omega)).mono ?_
  rintro e w' ⟨rfl, rfl⟩
  generalize numL l = n at *
  generalize min 60000 (l.length - 8) = mn at *
  go_wp2
  go_ret3
  exact .no ho (Keep.refl _ _)
 obtain ⟨n, hnn⟩ : ∃ n, numL l = n := ⟨_, rfl⟩
 obtain ⟨x, hx⟩ : ∃ x, (l.drop 8).take n = x := ⟨_, rfl⟩
 have hxl : x.length = n := by rw [← hx]; simp; omega
 have hn6 : n ≤ 60000 := by omega
 have hn7 : 8 + n ≤ l.length := by omega
 have hin : (n : Int) ≤ 60000 := by omega
 have hmi : ((n : Int)) ≤ ((min 60000 (l.length - 8) : Nat) : Int) := by omega
 generalize min 60000 (l.length - 8) = mn at *
 have HN := hid hnn
 have HX := hid hx
 have HXL := hid hxl
 obtain ⟨A8, hs8, hv8⟩ := cut_fact (P := Tryz.prog) EU8.ok ty_u8 hv (lo := 8) (hi := 8 + n) (a := 8) (b := 8 + (n : Int)) rfl (by omega) (by omega) hn7
 obtain ⟨A4, hs4, hv4⟩ := tail_fact (P := Tryz.prog) EU8.ok ty_u8 hv (lo := 4) (a := 4) rfl (by omega)
 rw [show ((l.take (8 + n)).drop 8) = x from by rw [← hx, List.drop_take, Nat.add_sub_cancel_left]] at hv8
 rw [Nat.add_sub_cancel_left] at hs8 hv8
 have HV8 := hid hv8
 have HV4 := hid hv4
 have HV := hid hv
 clear hbig hn hx hxl hv4 hv8
 go_enter Tryz.func84, Tryz.ntmps84
 go_wp2_with fail
 refine (number_any _ _ _ _ hv (by omega)).mono ?_
 rintro e w' ⟨rfl, rfl⟩
 rw [hnn]
 clear hnn hv
 go_wp2_with fail
 obtain ⟨m4, hm4⟩ : ∃ m4, numL (l.drop 4) = m4 := ⟨_, rfl⟩
 obtain ⟨s, hs⟩ : ∃ s, (sumOf (l.take 4 ++ x)).toNat = s := ⟨_, rfl⟩
 have ho : openL l = if m4 ≠ s then none else some x := by
  unfold openL
  rw [if_neg hl, HN.out, HX.out, hm4, hs, if_neg (by have := hmin w; rw [run_min_int2] at this; injection this with this; injection this with _ this; split at this <;> omega)]
 have HM4 := hid hm4
 have HSS := hid hs
 have HO := hid ho
 obtain ⟨hsf, hvf⟩ := front_fact (P := Tryz.prog) EU8.ok ty_u8 HV.out (hi := 4) (b := 4) rfl (by omega)
 have HT := hid hvf
 clear hm4 hs ho hvf hmin
 refine wp_region_grow (specOf [(2, fun v w' => v = .int .u32 (m4 : Int)), (6, fun v w' => SlShape EBytes w' (fun _ => True) v 2 [l.take 4, x]), (7, fun v w' => v = .int .u32 (s : Int))])
  (fun w' => Ext w w') ?_ (stableC_ext _) (by kernel_rfl) (by kernel_rfl) (Keep.drew (Keep.refl _ _)) ?_
 ·exact stable_cons (fun v w w' h he => h) (stable_cons (fun v w w' h he => h.ext EBytes.ok he) (stable_cons (fun v w w' h he => h) stable_nil))
 iterate 2
  (try simp only [Act.put, sqa, sqb, sqc])
  refine grow_run rfl rfl rfl ?_
  apply Exists.intro
  refine ⟨fun w' hC hK => ?_, ?_⟩
  ·go_simp
   rfl
 (try simp only [Act.put, sqa, sqb, sqc])
 refine grow_eff rfl rfl rfl (fun w' hC hK => ?_) (fun v2 hv2 => ?_)
 ·unfold growAt
  go_simp
  refine grow_call ((number_any _ _ _ _ (HV4.out.ext EU8.ok hC) (by simp; omega)).mono ?_)
  rintro e w'' ⟨rfl, rfl⟩
  exact ⟨_, rfl, Keep.refl _ _, by rw [HM4.out]⟩
 obtain rfl : v2 = .int .u32 (m4 : Int) := hv2.head.elim fun _ h => h.2
 clear hv2
 iterate 3
  (try simp only [Act.put, sqa, sqb, sqc])
  refine grow_run rfl rfl rfl ?_
  apply Exists.intro
  refine ⟨fun w' hC hK => ?_, ?_⟩
  ·go_simp
   rfl
 (try simp only [Act.put, sqa, sqb, sqc])
 refine grow_eff rfl rfl rfl (fun w' hC hK => ?_) (fun v6 hv6 => ?_)
 ·unfold growAt
  go_simp
  exact ⟨(Keep.refl _ _).alloc _, _, _, rfl, (sl_two (bytes_any (HT.out.ext EU8.ok hC)) (bytes_any (HV8.out.ext EU8.ok hC))).more EBytes.ok fun _ _ _ => trivial⟩
 obtain ⟨_, _, A6, c6, rfl, _⟩ := hv6.head
 clear hv6
 (try simp only [Act.put, sqa, sqb, sqc])
 refine grow_eff rfl rfl rfl (fun w' hC hK => ?_) (fun v7 hv7 => ?_)
 ·unfold growAt
  go_simp
  obtain ⟨_, _, e7, f7⟩ : SlShape EBytes w' (fun _ => True) (.slice A6 2 c6) 2 [l.take 4, x] := hK.get (i := 6) List.mem_cons_self (by kernel_rfl)
  refine grow_call ((sum_any _ _ _ _ (bytess_of_S f7)).mono ?_)
  rintro e w'' ⟨rfl, hE⟩
  exact ⟨_, rfl, hE, by rw [← HSS.out]; simp [U32]⟩
 obtain rfl : v7 = .int .u32 (s : Int) := hv7.head.elim fun _ h => h.2
 clear hv7
 by_cases hq : m4 = s
 ·subst hq
  iterate 1
   (try simp only [Act.put, sqa, sqb, sqc])
   refine grow_run rfl rfl rfl ?_
   apply Exists.intro
   refine ⟨fun w' hC hK => ?_, ?_⟩
   ·go_simp
    rfl
  refine grow_nil fun w6 hC _ => ?_
  have HC := hid hC
  clear hC
  go_wp2_with fail
  have hx6 : x.length ≤ 140737488355328 := by have := HXL.out; omega
  refine (clone_bytes _ _ _ _ (HV8.out.ext EU8.ok HC.out) hx6).mono ?_
  rintro e w7 ⟨v7, rfl, hv7, hE7⟩
  have hz := HC.out.size
  have H7 := hid (hv7.more (S' := fun k => w.heap.size ≤ k) EU8.ok fun k _ h => by omega)
  have HE := hid (HC.out.ext hE7)
  obtain ⟨A7, c7, rfl, _⟩ := hv7.shape
  clear hv7 hE7
  go_wp2
  go_ret3
  have := OpenIs.yes (w := w) (by rw [HO.out, if_neg (by simp)]) H7.out HE.out
  rw [show ((8 + x.length : Nat) : Int) = 8 + (n : Int) from by have := HXL.out; omega] at this
  simpa using this
 ·skip
  iterate 1
   (try simp only [Act.put, sqa, sqb, sqc])
   refine grow_run rfl rfl rfl ?_
   apply Exists.intro
   refine ⟨fun w' hC hK => ?_, ?_⟩
   ·go_simp
    rfl
  refine grow_nil fun w6 hC _ => ?_
  have HC := hid hC
  clear hC
  go_wp2
  go_ret3
  exact .no (by rw [HO.out, if_pos hq]) HC.out
end Go.Proofs.YtihaliffcobacaaGreatDoor
namespace Go.Proofs.YtihaliffcobacaaGreatDoor
open Go.RowKit Go.Shelf
attribute [local go_sem] Oper.semAt_some
def framesL (p : Nat) (b : List UInt8) : List (Nat × List UInt8) :=
 match h : openL b with
 | none => []
 | some x => (p + (8 + x.length), x) :: framesL (p + (8 + x.length)) (b.drop (8 + x.length))
termination_by b.length
decreasing_by have := openL_length h; simp; omega
theorem framesL_none {b : List UInt8} (p : Nat) (h : openL b = none) : framesL p b = [] := by
 rw [framesL]; split
 ·rfl
 ·rename_i x hx; rw [h] at hx; cases hx
theorem framesL_some {b x : List UInt8} (p : Nat) (h : openL b = some x) : framesL p b = (p + (8 + x.length), x) :: framesL (p + (8 + x.length)) (b.drop (8 + x.length)) := by
 rw [framesL]; split
 ·rename_i hx; rw [h] at hx; cases hx
 ·rename_i y hy; rw [h] at hy; injection hy with hy; subst hy; rfl
theorem framesL_length (n : Nat) : ∀ (p : Nat) (b : List UInt8), b.length ≤ n → (framesL p b).length ≤ b.length := by
 induction n with
 | zero => intro p b h; cases ho : openL b with
  | none => rw [framesL_none p ho]; exact Nat.zero_le _
  | some x => have := openL_length ho; omega
 | succ n ih => intro p b h; cases ho : openL b with
  | none => rw [framesL_none p ho]; exact Nat.zero_le _
  | some x =>
   have h1 := openL_length ho
   have h2 := ih (p + (8 + x.length)) (b.drop (8 + x.length)) (by simp; omega)
   rw [framesL_some p ho, List.length_cons]
   simp only [List.length_drop] at h2
   omega
theorem scan_frames (n : Nat) : ∀ (p : Nat) (b : List UInt8), b.length ≤ n → (framesL p b).map (·.2) = (scanL b).1 ∧ ((framesL p b).map (·.1)).getLastD p = p + (scanL b).2 := by
 induction n with
 | zero => intro p b h; cases ho : openL b with
  | none => rw [framesL_none p ho, scanL_none ho]; exact ⟨rfl, rfl⟩
  | some x => have := openL_length ho; omega
 | succ n ih => intro p b h; cases ho : openL b with
  | none => rw [framesL_none p ho, scanL_none ho]; exact ⟨rfl, rfl⟩
  | some x =>
   have h1 := openL_length ho
   have h2 := ih (p + (8 + x.length)) (b.drop (8 + x.length)) (by simp; omega)
   rw [framesL_some p ho, scanL_some ho]
   refine ⟨by rw [List.map_cons, h2.1], ?_⟩
   rw [List.map_cons, List.getLastD_cons, h2.2]
   show p + (8 + x.length) + _ = p + (8 + x.length + _)
   omega
structure Fr where
 p : Nat
 A : Option Addr
 c : Nat
 x : List UInt8
abbrev Fr.v (f : Fr) : Value := .slice f.A f.x.length f.c
def Fr.enc (f : Fr) : Array Value := #[.int .i64 (f.p : Int), f.v]
def Fr.kv (f : Fr) : Nat × List UInt8 := (f.p, f.x)
def Fr.Made (Wp W : World) (f : Fr) : Prop := BytesS W (fun k => Wp.heap.size ≤ k) f.v f.x
def OpenSet (b : List UInt8) (Wp wr : World) (x n e : Value) : Prop := match openL b with
 | none => x = .slice none 0 0 ∧ n = .int .i64 0 ∧ e = .int .u16 120
 | some y => ∃ A c, x = .slice A y.length c ∧ n = .int .i64 ((8 + y.length : Nat) : Int) ∧ e = .int .u16 0 ∧ BytesS wr (fun k => Wp.heap.size ≤ k) (.slice A y.length c) y
theorem open_set (v : Value) (l : List UInt8) (S : BS) (w : World) (hv : BytesS w S v l) :
  Calls Tryz.prog 84 #[v] w fun e w' => ∃ x n c, e = .returned (.tuple #[x, n, c]) ∧ OpenSet l w w' x n c ∧ Ext w w' :=
 (open_any v l S w hv).mono fun e w' h => by
  unfold OpenIs at h
  unfold OpenSet
  cases ho : openL l with
  | none => rw [ho] at h; obtain ⟨rfl, hE⟩ := h; exact ⟨_, _, _, rfl, ⟨rfl, rfl, rfl⟩, hE⟩
  | some y => rw [ho] at h; obtain ⟨v', rfl, hb, hE⟩ := h; obtain ⟨A, c, rfl, _⟩ := hb.shape; exact ⟨_, _, _, rfl, ⟨_, _, rfl, rfl, rfl, hb⟩, hE⟩
abbrev EKp (vb : Nat) (S : BS) : World → World → Prop := Keep (fun k => k ≠ vb ∧ ¬ S k)
set_option maxRecDepth 100000 in
theorem each_all (m vb : Nat) (w : World) (S : BS) (v : Value) (b : List UInt8) (hm : 1 ≤ m) (hvb : Blk w vb 46 #[v]) (hv : BytesS w S v b) (hS : ∀ k, S k → k < w.heap.size) :
  SeqNew Fence.wide m Tryz.prog 83 #[.pointer (some ⟨vb, 0, none⟩)] Fr.enc Fr.Made (EKp vb S) (fun xs => xs.map Fr.kv = framesL 0 b) (framesL 0 b).length w := by
 intro l J W hW hJ hY h0
 obtain ⟨A, c, rfl, hlc, hcm⟩ := hv.shape
 unfold maxLen at hcm
 have hb := hvb.keep hW id
 have q0 : W.cell? ⟨vb, 0, none⟩ = some (.slice A b.length c) := hb.cell 0
 have HV := hid (hv.ext EU8.ok hW)
 have HB := hid hb
 have HJ := hid hJ
 have HY := hid hY
 clear hv hvb hJ hY hb hW hS
 refine callsIn_of_wp Tryz.func83 rfl trivial ?_ rfl
 simp only [Tryz.ntmps83, List.size_toArray, List.length_cons, List.length_nil, Nat.reduceAdd, Nat.reduceSub, Array.replicate_succ, Array.replicate_zero, List.push_toArray, List.append_toArray, List.nil_append, List.cons_append]
 gi_wp2_with fail
 refine ⟨trivial, (callsIn_wide.2 (open_set _ _ _ _ HV.out)).mono ?_⟩
 rintro e w1 ⟨x, n, cc, rfl, hset, hE⟩
 have HSET := hid hset
 have HE1 := hid hE
 clear hset hE q0
 gi_wp2_with fail
 gi_loopw [3, 4, 5, 6] (fun p x n e wr => ∃ (pre : List Fr) (at_ : Nat) (Wp : World), at_ ≤ b.length ∧ p = .int .i64 (at_ : Int) ∧ pre.map Fr.kv ++ framesL at_ (b.drop at_) = framesL 0 b ∧ J pre Wp ∧ Ext Wp wr ∧ EKp vb S W wr ∧ OpenSet (b.drop at_) Wp wr x n e)
  (fun p _ _ _ wr => b.length - (intOf p).toNat)
 case atStart => exact ⟨[], 0, W, Nat.zero_le _, rfl, by simp, h0, HE1.out, HE1.out.mono fun _ _ h => h.elim, by simpa using HSET.out⟩
 case round =>
  obtain ⟨pre, at_, Wp, hat, rfl, hpre, hJp, hEp, hKp, hset⟩ := hrel
  unfold OpenSet at hset
  cases ho : openL (b.drop at_) with
  | none =>
   rw [ho] at hset
   obtain ⟨rfl, rfl, rfl⟩ := hset
   have hJr := HJ.out _ _ _ hJp hEp
   rw [framesL_none _ ho, List.append_nil] at hpre
   have HP := hid hpre
   have HJR := hid hJr
   clear hpre hJr hJp hEp hKp ho
   gi_wp2
   go_end0
   exact ⟨⟨_, rfl⟩, pre, HP.out, HJR.out⟩
  | some y =>
   rw [ho] at hset
   obtain ⟨A1, c1, rfl, rfl, rfl, hby⟩ := hset
   have hyl := (openL_length ho).1
   rw [List.length_drop] at hyl
   have hpl : at_ + (8 + y.length) ≤ b.length := by omega
   rw [framesL_some _ ho] at hpre
   have hlen : pre.length < (framesL 0 b).length := by rw [← hpre, List.length_append, List.length_cons, List.length_map]; omega
   obtain ⟨fn, tmps, assign, body, hy, hR⟩ := HY.out pre ⟨at_ + (8 + y.length), A1, c1, y⟩ Wp wr hJp hEp hby hlen
   simp only [Fr.enc] at hy
   rw [show ((at_ + (8 + y.length) : Nat) : Int) = (at_ : Int) + (8 + (y.length : Int)) from by omega] at hy
   rw [List.drop_drop] at hpre
   have HP := hid hpre
   have HK := hid hKp
   have HR := hid hR
   clear hpre hlen hJp hEp hKp hby ho hR
   gi_wp2_with fail
   refine HR.out.mono ?_
   rintro e W' ⟨rfl, hJ', hk'⟩
   have hK2 : EKp vb S W W' := HK.out.trans hk' fun _ _ h => h
   have q0 : W'.cell? ⟨vb, 0, none⟩ = some (.slice A b.length c) := (HB.out.keep hK2 (fun h => h.1 rfl)).cell 0
   have hv2 := HV.out.keep EU8.ok hK2 fun k hk h => h.2 hk
   obtain ⟨A4, hs4, hv4⟩ := tail_fact (P := Tryz.prog) EU8.ok ty_u8 hv2 (lo := at_ + (8 + y.length)) (a := (at_ : Int) + (8 + (y.length : Int))) (by omega) (by omega)
   have HJ2 := hid hJ'
   have HK2 := hid hK2
   have HV4 := hid hv4
   clear hJ' hk' hK2 hv2 hv4 HR HK hy
   gi_wp2_with fail
   refine ⟨trivial, (callsIn_wide.2 (open_set _ _ _ _ HV4.out)).mono ?_⟩
   rintro e w2 ⟨x2, n2, e2, rfl, hset2, hE2⟩
   have HSET2 := hid hset2
   have HE2 := hid hE2
   clear hset2 hE2 q0 hs4
   gi_wp2_with fail
   go_roundw
   case rel => exact ⟨pre ++ [⟨at_ + (8 + y.length), A1, c1, y⟩], at_ + (8 + y.length), W', hpl, by go_num, by rw [List.map_append, List.append_assoc]; exact HP.out, HJ2.out, HE2.out, HK2.out.ext HE2.out, HSET2.out⟩
   case measure => simp [intOf]; omega
end Go.Proofs.YtihaliffcobacaaGreatDoor
namespace Go.Proofs.YtihaliffcobacaaGreatDoor
open Go.RowKit Go.Shelf
attribute [local go_sem] Oper.semAt_some
theorem callsOfF {P : Program} {f : FuncId} {fn : Func} {c : Code} {args : Array Value} {w : World} {R : Ending → World → Prop} (hf : P.funcs[f]? = some fn) (hb : fn.body = some c)
  (h : c.wpIn Fence.wide 5 P (bodyPostM Fence.wide 5 P fn R) { tmps := args ++ Array.replicate (fn.ntmps - args.size) undef, defers := [] } w) : Calls P f args w R := callsIn_wide.1 (callsIn_of_wp_marks hf hb trivial h rfl)
abbrev TB : Nat := 46
abbrev TBS : Nat := 74
theorem ty_bytes : TyInfo Tryz.prog TBS TB 1 24 := by
 obtain ⟨i, h1, h2, h3, h4⟩ := info_parts (show (Tryz.prog.info? TB).map (fun i => (i.zero, i.size, i.bytes)) = some (some (.slice none 0 0), 1, 24) from by kernel_rfl)
 exact ⟨Tryz.underlying74, i, _, h1, h2, h3, h4, rfl⟩
theorem wpListIn_own_append2 {F : Fence} {n : Nat} {P : Program} {α : Type} {E : El α} {S S2 : BS} {base : Nat} {t T : TypeId} {v y : Value} {xs ys : List α} {bytes : Nat} (w : World) {SR : BS} {ds : List Value} {ops : Array Oper} {rest : List Oper} {o : Oper} {a : Act} {Q : Exit → Act → World → Prop} (hgd : o.guard = none) (s x : Operand)
  (hE : E.Ok) (ht : TyInfo P t T E.size bytes) (ho : o.op = .call { callee := .builtin .append, args := #[s, x], argTypes := #[t, t] })
  (hs : a.eval s = v) (hx : a.eval x = y) (hown : Own E w base T S v xs) (hsr : RowS w SR E.size y ys.length ds) (hds : Cells E w S2 ds ys) (hg : ∀ g, v.ownBlock = some g → ¬ S g ∧ ¬ S2 g)
  (hbytes : (xs.length + ys.length) * bytes ≤ 140737488355328) (h63 : xs.length + ys.length ≤ maxLen) (hbase : base ≤ w.heap.size)
  (h : ∀ v' w', Own E w' base T (fun k => S k ∨ S2 k) v' (xs ++ ys) → Keep (fun k => v.ownBlock = some k) w w' → (v'.ownBlock = v.ownBlock ∨ v'.ownBlock = some w.heap.size) → w.grownBy w' v.ownBlock → wpListIn F n P ops Q rest (a.put o.dst v') w') : wpListIn F n P ops Q (o :: rest) a w := by
 obtain ⟨v', w', hrun, h1, h2, h3⟩ := own_append2 (P := P) (w := w) hE ht o.type hown hsr hds hg h63 hbytes hbase
 refine wpListIn_plain hgd fun K hK => ?_
 unfold Oper.wpIn
 refine ⟨?_, ?_⟩
 ·simp [Oper.about, ho, resolve, Target.leads, Sem.run_pure]
 ·rw [Oper.semAt_plain F _ _ (by rw [ho]; intro c hc'; cases hc')]
  simp [execOp, ho, resolve, invoke, builtin, hs, hx, hrun, Result.andThen]
  exact hK _ _ (h v' w' h1 ((Keep.refl _ _).grown h2 (fun k e _ => e)) h3 h2)
theorem BytesS.keep' {F : Nat → Prop} {w w' : World} {S : BS} {v : Value} {l : List UInt8} (h : BytesS w S v l) (hk : Keep F w w') (hF : ∀ k, S k → ¬ F k) : BytesS w' S v l := Sl.keep EU8.ok h hk hF
theorem each_ok (A : Option Addr) (n c : Nat) (w : World) :
  Calls Tryz.prog 62 #[.slice A n c] w fun e w' => e = .returned (.func (.func 83) #[] #[.pointer (some ⟨w.heap.size, 0, none⟩)]) ∧ w' = w.alloc (.cells #[.slice A n c] TB) := by
 go_enter Tryz.func62, Tryz.ntmps62
 go_wp2
 go_ret
 exact ⟨rfl, rfl⟩
def lastP (pre : List Fr) : Nat := (pre.map Fr.p).getLastD 0
def Coll (w : World) (B nb : Nat) (pre : List Fr) (W : World) : Prop :=
 ∃ (v : Value) (S : BS), Blk W nb TBS #[v] ∧ Blk W (nb + 1) 3 #[.int .i64 (lastP pre : Int)] ∧ Own EBytes W B TB S v (pre.map Fr.x) ∧ (∀ k, S k → B ≤ k ∧ v.ownBlock ≠ some k) ∧ Ext w W
theorem Coll.ext {w : World} {B nb : Nat} {pre : List Fr} {W W' : World} (h : Coll w B nb pre W) (hE : Ext W W') : Coll w B nb pre W' := by
 obtain ⟨v, S, h1, h2, h3, h4, h5⟩ := h
 exact ⟨v, S, h1.keep hE id, h2.keep hE id, h3.ext EBytes.ok hE, h4, h5.ext hE⟩
theorem Coll.put {w : World} {B nb : Nat} {pre : List Fr} {W : World} (h : Coll w B nb pre W) {l : Nat} (o' : Obj) (hw : w.heap.size ≤ nb) (hl : nb + 1 < l) (hlB : l < B) : Coll w B nb pre (W.putObj l o') := by
 obtain ⟨v, S, h1, h2, h3, h4, h5⟩ := h
 have hk : Keep (· = l) W (W.putObj l o') := Keep.grown (Keep.refl _ _) (grownBy_putObj' W l o') fun k e _ => by cases e; rfl
 exact ⟨v, S, h1.keep hk (by omega), h2.keep hk (by omega), h3.keep EBytes.ok hk (fun k hs e => by have := (h4 k hs).1; omega) (fun g hg e => by have := (h3.lt hg).1; omega), h4, h5.trans hk fun k hk e => by omega⟩
theorem Own.blk {α : Type} {E : El α} {w : World} {base : Nat} {T : TypeId} {S : BS} {v : Value} {xs : List α} (h : Own E w base T S v xs) {g : Nat} (hg : v.ownBlock = some g) : ∃ cs, Blk w g T cs := by
 rcases h with ⟨rfl, _⟩ | ⟨g', cap, cur, rfl, _, hb, _⟩
 ·cases hg
 ·injection hg with hg; subst hg; exact ⟨_, hb⟩
theorem lastP_snoc (pre : List Fr) (f : Fr) : lastP (pre ++ [f]) = f.p := by simp [lastP]
set_option maxRecDepth 100000 in
theorem scan_any (v : Value) (b : List UInt8) (S : BS) (w : World) (hv : BytesS w S v b) (hbl : b.length ≤ 2000000) :
  Calls Tryz.prog 30 #[v] w fun e w' => ∃ v', e = .returned (.tuple #[v', .int .i64 ((scanL b).2 : Int)]) ∧ Sl EBytes w' (fun k => w.heap.size ≤ k) v' (scanL b).1 ∧ Ext w w' := by
 obtain ⟨A, c, rfl, hlc, hcm⟩ := hv.shape
 unfold maxLen at hcm
 have HV := hid hv
 clear hv
 refine callsOfF Tryz.func30 rfl ?_
 simp only [Tryz.ntmps30, List.size_toArray, List.length_cons, List.length_nil, Nat.reduceAdd, Nat.reduceSub, Array.replicate_succ, Array.replicate_zero, List.push_toArray, List.append_toArray, List.nil_append, List.cons_append]
 gi_wp2_with fail
 refine ⟨trivial, (callsIn_wide.2 (each_ok _ _ _ _)).mono ?_⟩
 rintro e w' ⟨rfl, rfl⟩
 gi_wp2_with fail
 obtain ⟨W0, hW0⟩ : ∃ W0, ((w.alloc (.cells #[.slice none 0 0] TBS)).alloc (.cells #[.int .i64 0] 3)).alloc (.cells #[.slice A b.length c] TB) = W0 := ⟨_, rfl⟩
 have hE0 : Ext w W0 := by rw [← hW0]; exact (((Keep.refl _ _).alloc _).alloc _).alloc _
 have hsz : W0.heap.size = w.heap.size + 3 := by rw [← hW0]; simp
 have hb0 : Blk W0 w.heap.size TBS #[.slice none 0 0] := by rw [← hW0]; exact ((Blk.new w TBS _).alloc _).alloc _
 have hb1 : Blk W0 (w.heap.size + 1) 3 #[.int .i64 0] := by
  have := (Blk.new (w.alloc (.cells #[.slice none 0 0] TBS)) 3 #[.int .i64 0]).alloc (.cells #[.slice A b.length c] TB)
  rw [World.size_alloc] at this
  rw [← hW0]; exact this
 have hb2 : Blk W0 (w.heap.size + 1 + 1) TB #[.slice A b.length c] := by
  have := Blk.new ((w.alloc (.cells #[.slice none 0 0] TBS)).alloc (.cells #[.int .i64 0] 3)) TB #[.slice A b.length c]
  rw [World.size_alloc, World.size_alloc] at this
  rw [← hW0]; exact this
 simp only [hW0]
 have HSZ := hid hsz
 have hseq := each_all 4 (w.heap.size + 1 + 1) W0 (fun k => S k ∧ k < w.heap.size) _ b (by omega) hb2 ((HV.out.more (S' := fun k => S k ∧ k < w.heap.size) EU8.ok fun k h1 h2 => ⟨h2, h1⟩).ext EU8.ok hE0) (fun k h => by omega)
 have h0 : Coll w (W0.heap.size + 2) w.heap.size [] W0 := ⟨_, fun _ => False, hb0, hb1, Own.nil _ _ _ _, fun _ h => h.elim, hE0⟩
 clear hW0 hE0 hb0 hb1 hb2 HV
 refine wpIn_range_new rfl (by omega) (gf := 83) (lb := #[.pointer (some ⟨w.heap.size + 1 + 1, 0, none⟩)]) rfl trivial (enters_of Tryz.func83 (by kernel_rfl) rfl) hseq (fun h k => h.trans k fun _ _ h => h) ?kb (fun _ => rfl)
  (Coll w (W0.heap.size + 2) w.heap.size) (fun s A B h hE => h.ext hE) (fun s W o' h hl => h.put o' (Nat.le_refl _) (by omega) (by omega)) h0 ?fo
  (fun f => { tmps := #[.slice A b.length c, undef, .slice none 0 0, .int .i64 0, .pointer (some ⟨w.heap.size, 0, none⟩), .pointer (some ⟨w.heap.size + 1, 0, none⟩), .int .i64 (f.p : Int), f.v, .slice A b.length c, .func (.func 83) #[] #[.pointer (some ⟨w.heap.size + 1 + 1, 0, none⟩)], .int .i64 (f.p : Int), f.v, undef, undef, undef, undef, undef, undef, undef], defers := [] })
  ?assign ?body ?done
 case kb => exact fun W o' hl => Keep.grown (Keep.refl _ _) (grownBy_putObj' W _ o') fun k e _ => by cases e; exact ⟨by omega, fun h => by omega⟩
 case fo =>
  intro x Wp W o' hx hl
  exact BytesS.keep' hx (Keep.grown (F := (· = W0.heap.size + 1)) (Keep.refl _ _) (grownBy_putObj' W _ o') fun k e _ => by cases e; rfl) fun k hk e => by omega
 case assign =>
  rintro l f W K hK
  simp only [Fr.enc, Fr.v] at hK ⊢
  gi_wp2
  exact hK
 case body =>
  rintro l pre f Wp W ⟨v, S2, h1, h2, h3, h4, h5⟩ hlt hk hm hlen
  have g1 := h1.keep hk (by omega)
  have g2 := h2.keep hk (by omega)
  have g3 := h3.keep EBytes.ok hk (fun k hs e => by have := (h4 k hs).1; omega) (fun g hg e => by have := (h3.lt hg).1; omega)
  obtain ⟨Av, cv, rfl, _, _⟩ := h3.shape
  rw [List.length_map] at g1 g3 h4 h3
  have q0 := g1.cell 0
  have q1 := g2.cell 0
  have f1 := g2.frozen 0
  simp at q0 q1
  have G1 := hid g1
  have G2 := hid g2
  have G3 := hid g3
  have H4 := hid h4
  have HK := hid hk
  have HM := hid hm
  have H5 := hid h5
  have HSZW := hid hk.size
  have HLTG := hid (fun g (e : (Value.slice Av pre.length cv).ownBlock = some g) => h3.lt e)
  clear h1 h2 h3 h4 h5 hk hm g1 g2 g3 h0 hseq
  obtain ⟨W1, hW1⟩ : ∃ W1, (W.setCell ⟨w.heap.size + 1, 0, none⟩ (.int .i64 (f.p : Int))).alloc (.cells #[f.v] TB) = W1 := ⟨_, rfl⟩
  have hz1 : (W.setCell ⟨w.heap.size + 1, 0, none⟩ (.int .i64 (f.p : Int))).heap.size = W.heap.size := by simp
  have hks : Keep (· = w.heap.size + 1) W (W.setCell ⟨w.heap.size + 1, 0, none⟩ (.int .i64 (f.p : Int))) := (Keep.refl _ _).set1 0 _
  have hk1 : Keep (· = w.heap.size + 1) W W1 := by rw [← hW1]; exact hks.alloc _
  have hrow : RowS W1 (fun k => k = W.heap.size) 1 (.slice (some ⟨W.heap.size, 0, none⟩) 1 1) 1 [f.v] := by
   have := RowS.new (w := W.setCell ⟨w.heap.size + 1, 0, none⟩ (.int .i64 (f.p : Int))) (t := TB) (sz := 1) (cs := [f.v]) (n := 1) rfl (by simp [maxLen])
   rw [hz1] at this
   rw [← hW1]; exact this
  have hzw := HSZW.out
  have hz3 := HSZ.out
  have hm1 : BytesS W1 (fun k => Wp.heap.size ≤ k) f.v f.x := BytesS.keep' HM.out hk1 fun k hk e => by omega
  have ho1 : Own EBytes W1 (W0.heap.size + 2) TB S2 (.slice Av pre.length cv) (pre.map Fr.x) := G3.out.keep EBytes.ok hk1 (fun k hs e => by have := (H4.out k hs).1; omega) (fun g hg e => by have := (HLTG.out g hg).1; omega)
  have hbx : Blk W1 (w.heap.size + 1) 3 #[.int .i64 (f.p : Int)] := by rw [← hW1]; exact (G2.out.set_ 0 _).alloc _
  have hb0 : Blk W1 w.heap.size TBS #[.slice Av pre.length cv] := G1.out.keep hk1 (by omega)
  have hz4 := hk1.size
  have hfl := framesL_length b.length 0 b (Nat.le_refl _)
  have hzz : W1.heap.size = W.heap.size + 1 := by rw [← hW1]; simp
  have hm2 := hm1.more (S' := fun k => Wp.heap.size ≤ k ∧ k < W1.heap.size) EU8.ok fun k h1 h2 => ⟨h2, h1⟩
  have ho2 := ho1.more (S' := fun k => S2 k ∧ k < W1.heap.size) EBytes.ok fun k h1 h2 => ⟨h2, h1⟩
  have HZZ := hid hzz
  have HW1 := hid hW1
  clear hW1 hks hz3 hsz hm1 ho1 hzz
  gi_wp2_with (gi_at_builtin; refine wpListIn_own_append2 (P := Tryz.prog) (E := EBytes) (v := .slice Av pre.length cv) (xs := pre.map Fr.x) (ys := [f.x]) _ rfl (.tmp 13) (.tmp 15) EBytes.ok ty_bytes rfl rfl rfl (HW1.out ▸ ho2) (HW1.out ▸ hrow) (Cells.single ⟨_, rfl, HW1.out ▸ hm2⟩) ?f1 ?f2 ?f3 ?f4 ?_)
  case f1 => exact fun g hg => ⟨fun h => (H4.out g h.1).2 hg, fun h => by have := (HLTG.out g hg).2; have := h.1; omega⟩
  case f2 => rw [List.length_map]; simp only [List.length_singleton]; omega
  case f3 => rw [List.length_map]; simp only [List.length_singleton, maxLen]; omega
  case f4 => simp; omega
  intro v2 w2 hown2 hk2 hb2 _
  rw [HW1.out] at hk2
  obtain ⟨A2, c2, rfl, _⟩ := hown2.shape
  have hb3 : Blk w2 w.heap.size TBS #[.slice Av pre.length cv] := hb0.keep hk2 (fun e => by have := (HLTG.out _ e).1; have := HSZ.out; omega)
  have hx3 : Blk w2 (w.heap.size + 1) 3 #[.int .i64 (f.p : Int)] := hbx.keep hk2 (fun e => by have := (HLTG.out _ e).1; have := HSZ.out; omega)
  have s0 := hb3.cell 0
  have s1 := hb3.frozen 0
  simp at s0
  have HO2 := hid hown2
  have HK2 := hid hk2
  have HB2 := hid hb2
  have HX3 := hid hx3
  have HB3 := hid hb3
  clear hown2 hk2 hb2 hx3 hb3 hrow hm2 ho2 hbx hb0 hk1 hz1 q0 q1 f1
  gi_wp2
  have hl2 : (pre.map Fr.x ++ [f.x]).length = pre.length + 1 := by simp
  have hb2 := HB2.out
  have ho := HO2.out
  rw [hl2] at ho hb2
  have hz := HSZ.out
  have hzz := HZZ.out
  have hg2 : ∀ g, (Value.slice A2 (pre.length + 1) c2).ownBlock = some g → W0.heap.size + 2 ≤ g := fun g e => (ho.lt e).1
  have hk3 : Keep (· = w.heap.size) w2 (w2.setCell ⟨w.heap.size, 0, none⟩ (.slice A2 (pre.length + 1) c2)) := (Keep.refl _ _).set1 0 _
  have hkW : Keep (fun k => k = w.heap.size ∨ k = w.heap.size + 1 ∨ (Value.slice Av pre.length cv).ownBlock = some k) W (w2.setCell ⟨w.heap.size, 0, none⟩ (.slice A2 (pre.length + 1) c2)) := by
   have hk1 : Keep (· = w.heap.size + 1) W W1 := by rw [← HW1.out]; exact ((Keep.refl _ _).set1 0 _).alloc _
   exact ((hk1.mono (G := fun k => k = w.heap.size ∨ k = w.heap.size + 1 ∨ (Value.slice Av pre.length cv).ownBlock = some k) fun _ _ h => .inr (.inl h)).trans HK2.out fun _ _ h => .inr (.inr h)).trans hk3 fun _ _ h => .inl h
  refine ⟨⟨hkW.size, fun k o hB ho' hc => (hkW.block k (Array.getElem?_eq_some_iff.1 ho').1 ?_).trans ho'⟩, hkW.mono fun k hk h => ?_, .slice A2 (pre.length + 1) c2, fun k => (S2 k ∧ k < W.heap.size + 1) ∨ (Wp.heap.size ≤ k ∧ k < W.heap.size + 1), HB3.out.set_ 0 _, ?_, ?_, ?_, ?_⟩
  ·rintro (h | h | h)
   ·omega
   ·omega
   ·obtain ⟨cs, hcs⟩ := G3.out.blk h
    unfold Blk at hcs
    rw [hcs] at ho'; cases ho'; cases hc
  ·rcases h with h | h | h
   ·omega
   ·omega
   ·have := (HLTG.out k h).1; omega
  ·rw [lastP_snoc]; exact HX3.out.keep hk3 (by omega)
  ·rw [List.map_append]
   exact ho.keep EBytes.ok hk3 (fun k hk e => by
    rcases hk with hk | hk
    ·have := (H4.out k hk.1).1; omega
    ·have := hk.1; omega) (fun g hg e => by have := hg2 g hg; omega)
  ·intro k hk
   refine ⟨?_, fun e => ?_⟩
   ·rcases hk with hk | hk
    ·exact (H4.out k hk.1).1
    ·have := hk.1; omega
   ·rcases hb2 with h | h
    ·rw [h] at e
     rcases hk with hk | hk
     ·exact (H4.out k hk.1).2 e
     ·have := (HLTG.out k e).2; have := hk.1; omega
    ·rw [h] at e; injection e with e
     rcases hk with hk | hk
     ·have := hk.2; omega
     ·have := hk.2; omega
  ·exact ((H5.out.trans HK.out fun k hk e => by omega).trans hkW fun k hk h => by
    rcases h with h | h | h
    ·omega
    ·omega
    ·have := (HLTG.out k h).1; omega)
 case done =>
  rintro xs W hxs ⟨v, S2, h1, h2, h3, h4, h5⟩ hD
  obtain ⟨Av, cv, rfl, _, _⟩ := h3.shape
  rw [List.length_map] at h1 h3 h4
  have q0 := h1.cell 0
  have q1 := h2.cell 0
  simp at q0 q1
  have hsc := scan_frames b.length 0 b (Nat.le_refl _)
  have hx1 : xs.map Fr.x = (scanL b).1 := by rw [← hsc.1, ← hxs, List.map_map]; rfl
  have hx2 : lastP xs = (scanL b).2 := by
   have : lastP xs = 0 + (scanL b).2 := by rw [← hsc.2, ← hxs, List.map_map]; rfl
   omega
  rw [hx1] at h3
  rw [hx2] at q1
  have H3 := hid h3
  have H4 := hid h4
  have H5 := hid h5
  have HDD := hid hD
  clear h1 h2 h3 h4 h5 hD hseq h0 hxs hsc hx1 hx2
  gi_wp2_with fail
  refine wpIn_wide.2 ?_
  refine wp_region_grow (specOf []) (fun w' => Ext W w') stable_nil (stableC_ext _) (by kernel_rfl) (by kernel_rfl) (Keep.drew (Keep.refl _ _)) ?_
  iterate 4
   (try simp only [Act.put, sqa, sqb, sqc])
   refine grow_run rfl rfl rfl ?_
   apply Exists.intro
   refine ⟨fun w' hC hK => ?_, ?_⟩
   ·have q0 := sqw hC q0
    have q1 := sqw hC q1
    go_simp
    rfl
  refine grow_nil fun w2 hC _ => ?_
  have hC : Ext W w2 := hC
  have hK := (hC.block _ (Array.getElem?_eq_some_iff.1 HDD.out).1 id).trans HDD.out
  have hp : Keep (· = W0.heap.size) w2 (w2.putObj W0.heap.size (.deferred none)) := Keep.grown (Keep.refl _ _) (grownBy_putObj' w2 _ _) fun k e _ => by cases e; rfl
  have hr := ((H3.out.ext EBytes.ok hC).keep EBytes.ok hp (fun k hk e => by have := (H4.out k hk).1; omega) (fun g hg e => by have := (H3.out.lt hg).1; omega)).sl EBytes.ok
  have hr2 := hr.more (S' := fun k => w.heap.size ≤ k) EBytes.ok fun k _ h => by
   rcases h with h | h
   ·have := (H4.out k h).1; omega
   ·have := (H3.out.lt h).1; omega
  have HR := hid hr2
  have HEND := hid ((H5.out.ext hC).trans hp fun k hk e => by omega)
  clear hr hr2 hp hC q0 q1
  gi_wp2
  refine ⟨by simp, .inl ⟨_, _, rfl, run_takeDeferred hK, ?_⟩⟩
  refine ⟨.tuple #[.slice Av xs.length cv, .int .i64 ((scanL b).2 : Int)], ?_, _, rfl, HR.out, HEND.out⟩
  first | exact results_two rfl _ _ _ _ | simp [results, Tryz.results30, Act.put, go_sem]
end Go.Proofs.YtihaliffcobacaaGreatDoor
