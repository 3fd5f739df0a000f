/- TextB, TextC, TextD: laid together. -/
import Derived.Test.YtioplgfopillnaaDoorMeB31
import Derived.Test.YtioplgfopillnaaDoorMeB11
set_option linter.unusedSimpArgs false
set_option linter.unusedVariables false
set_option maxHeartbeats 25600000
set_option maxRecDepth 20000
namespace Go.Proofs.YtioplgfopillnaaDoor
open Go.RowKit
def shrinkL (ai an bi bn : Int) : Int × Int := (ai - max (min (bi + bn) ai - bi) 0, an - max (min (ai + an) (bi + bn) - max ai bi) 0)
def Tm (i : Int) : Prop := 0 ≤ i ∧ i ≤ 1152921504606846976
abbrev tcA (k p key : Value) (i : Int) (j : Value) (n : Int) (v0 v1 v2 v3 v4 s : Value) : Array Value := #[k, p, key, .int .i64 i, j, .int .i64 n, v0, v1, v2, v3, v4, s]
abbrev tcL (k p key : Value) (i : Int) (j : Value) (n : Int) (v0 v1 v2 v3 v4 s : Value) : List Value := [k, p, key, .int .i64 i, j, .int .i64 n, v0, v1, v2, v3, v4, s]
def ETt (k p key j v0 v1 v2 v3 v4 s : Value) : El (Int × Int) := { size := 12, rd := fun _ _ cs x => cs = tcL k p key x.1 j x.2 v0 v1 v2 v3 v4 s }
def TextIs (k p key j v0 v1 v2 v3 v4 s : Value) (w : World) (l : List (Int × Int)) (e : Ending) (w' : World) : Prop :=
 ∃ v, e = .returned v ∧ Own (ETt k p key j v0 v1 v2 v3 v4 s) w' w.heap.size TCOMP (fun _ => False) v l ∧ Ext w w'
theorem text_nil (k p key j v0 v1 v2 v3 v4 s : Value) {w w' : World} (hE : Ext w w') : TextIs k p key j v0 v1 v2 v3 v4 s w [] (.returned (.slice none 0 0)) w' := ⟨_, rfl, Own.nil _ _ _ _, hE⟩
theorem text_one (k p key j v0 v1 v2 v3 v4 s : Value) {w W : World} {g : Nat} {i n : Int} (hE : Ext w W) (hg : W.heap.size = g) :
  TextIs k p key j v0 v1 v2 v3 v4 s w [(i, n)] (.returned (.slice (some ⟨g, 0, none⟩) 1 1)) (W.alloc (.cells (tcA k p key i j n v0 v1 v2 v3 v4 s) TCOMP)) := by
 subst hg
 exact ⟨_, rfl, .inr ⟨_, 1, _, rfl, hE.size, Blk.new _ _ _, Nat.le_refl _, by simp [maxLen], rfl, Cells.single rfl⟩, hE.alloc _⟩
theorem text_two (k p key j v0 v1 v2 v3 v4 s : Value) {w W : World} {g : Nat} {i n i' n' : Int} (hE : Ext w W) (hg : W.heap.size = g) :
  TextIs k p key j v0 v1 v2 v3 v4 s w [(i, n), (i', n')] (.returned (.slice (some ⟨g, 0, none⟩) 2 2)) (W.alloc (.cells #[k, p, key, .int .i64 i, j, .int .i64 n, v0, v1, v2, v3, v4, s, k, p, key, .int .i64 i', j, .int .i64 n', v0, v1, v2, v3, v4, s] TCOMP)) := by
 subst hg
 exact ⟨_, rfl, .inr ⟨_, 2, _, rfl, hE.size, Blk.new _ _ _, Nat.le_refl _, by simp [maxLen], rfl, ⟨tcL k p key i j n v0 v1 v2 v3 v4 s, tcL k p key i' j n' v0 v1 v2 v3 v4 s, rfl, rfl, Cells.single rfl⟩⟩, hE.alloc _⟩
theorem blk12 {w : World} {g : Nat} {T : TypeId} {x0 x1 x2 x3 x4 x5 x6 x7 x8 x9 x10 x11 : Value} (h : Blk w g T #[x0, x1, x2, x3, x4, x5, x6, x7, x8, x9, x10, x11]) :
  w.cell? ⟨g, 0, none⟩ = some x0 ∧ w.cell? ⟨g, 1, none⟩ = some x1 ∧ w.cell? ⟨g, 2, none⟩ = some x2 ∧ w.cell? ⟨g, 3, none⟩ = some x3 ∧ w.cell? ⟨g, 4, none⟩ = some x4 ∧ w.cell? ⟨g, 5, none⟩ = some x5 ∧
  w.cell? ⟨g, 6, none⟩ = some x6 ∧ w.cell? ⟨g, 7, none⟩ = some x7 ∧ w.cell? ⟨g, 8, none⟩ = some x8 ∧ w.cell? ⟨g, 9, none⟩ = some x9 ∧ w.cell? ⟨g, 10, none⟩ = some x10 ∧ w.cell? ⟨g, 11, none⟩ = some x11 :=
 ⟨h.cell 0, h.cell 1, h.cell 2, h.cell 3, h.cell 4, h.cell 5, h.cell 6, h.cell 7, h.cell 8, h.cell 9, h.cell 10, h.cell 11⟩
def BoxS (k n m : Nat) (v : Value) (w : World) : Prop := v = .pointer (some ⟨n, 0, none⟩) ∧ (k ≤ n ∧ n < m) ∧ Blk w n TSPAN #[.int .i64 0, .int .i64 0]
theorem BoxS.ext {k n m : Nat} {v : Value} {w w' : World} (h : BoxS k n m v w) (he : Ext w w') : BoxS k n m v w' := ⟨h.1, h.2.1, h.2.2.keep he id⟩
def span2 (w : World) (g : Nat) (a b : Int) : World := (w.setCell ⟨g, 0, none⟩ (.int .i64 a)).setCell ⟨g, 1, none⟩ (.int .i64 b)
theorem span2_keep (w : World) (g : Nat) (a b : Int) : Keep (· = g) w (span2 w g a b) := ((Keep.refl _ _).set1 0 _).set1 1 _
theorem span2_blk {w : World} {g : Nat} {x y : Value} (h : Blk w g TSPAN #[x, y]) (a b : Int) : Blk (span2 w g a b) g TSPAN #[.int .i64 a, .int .i64 b] := (h.set_ 0 _).set_ 1 _
set_option maxRecDepth 100000 in
theorem shrink_any (k p key j x0 x1 x2 x3 x4 s k' p' key' j' u0 u1 u2 u3 u4 s' : Value) (ai an bi bn : Int) (hai : Tm ai) (han : Tm an) (hbi : Tm bi) (hbn : Tm bn) (w : World) :
  Calls Tryd.prog 87 #[tcV k p key ai j an x0 x1 x2 x3 x4 s, tcV k' p' key' bi j' bn u0 u1 u2 u3 u4 s'] w
   (TextIs k p key j x0 x1 x2 x3 x4 s w (if (shrinkL ai an bi bn).2 = 0 then [] else [shrinkL ai an bi bn])) := by
 obtain ⟨hai1, hai2⟩ := hai
 obtain ⟨han1, han2⟩ := han
 obtain ⟨hbi1, hbi2⟩ := hbi
 obtain ⟨hbn1, hbn2⟩ := hbn
 obtain ⟨W0, hW0⟩ : ∃ W0, (w.alloc (.cells (tcA k p key ai j an x0 x1 x2 x3 x4 s) TCOMP)).alloc (.cells (tcA k' p' key' bi j' bn u0 u1 u2 u3 u4 s') TCOMP) = W0 := ⟨_, rfl⟩
 have hE0 : Ext w W0 := by rw [← hW0]; exact ((Keep.refl _ _).alloc _).alloc _
 have hsz : W0.heap.size = w.heap.size + 2 := by rw [← hW0]; simp
 have ha : Blk W0 w.heap.size TCOMP (tcA k p key ai j an x0 x1 x2 x3 x4 s) := by rw [← hW0]; exact (Blk.new w TCOMP _).alloc _
 have hb : Blk W0 (w.heap.size + 1) TCOMP (tcA k' p' key' bi j' bn u0 u1 u2 u3 u4 s') := by
  have := Blk.new (w.alloc (.cells (tcA k p key ai j an x0 x1 x2 x3 x4 s) TCOMP)) TCOMP (tcA k' p' key' bi j' bn u0 u1 u2 u3 u4 s')
  rw [World.size_alloc] at this
  rw [← hW0]; exact this
 have HIF := hid (show ∀ r : Int × Int, (if (shrinkL ai an bi bn).2 = 0 then [] else [shrinkL ai an bi bn]) = (if (shrinkL ai an bi bn).2 = 0 then [] else [shrinkL ai an bi bn]) from fun _ => rfl)
 generalize hR : (if (shrinkL ai an bi bn).2 = 0 then ([] : List (Int × Int)) else [shrinkL ai an bi bn]) = R
 have HR := hid hR
 clear hR HIF
 have qa3 := ha.cell 3
 have qa5 := ha.cell 5
 have HW0 := hid hW0
 have HE0 := hid hE0
 have HA := hid ha
 have HB := hid hb
 have HSZ := hid hsz
 have hva : ∀ i, W0.cell? ⟨w.heap.size, i, none⟩ = (tcA k p key ai j an x0 x1 x2 x3 x4 s)[i]? := fun i => ha.cell i
 have hvb : ∀ i, W0.cell? ⟨w.heap.size + 1, i, none⟩ = (tcA k' p' key' bi j' bn u0 u1 u2 u3 u4 s')[i]? := fun i => hb.cell i
 clear hW0 hE0 ha hb hsz qa3 qa5 hva hvb
 go_enter Tryd.func87, Tryd.ntmps87
 go_wp2_with fail
 rw [HW0.out]
 obtain ⟨a0, a1, a2, a3, a4, a5, a6, a7, a8, a9, a10, a11⟩ := blk12 HA.out
 obtain ⟨b0, b1, b2, b3, b4, b5, b6, b7, b8, b9, b10, b11⟩ := blk12 HB.out
 refine H.wp_region_parts [] [0, 1, 2, 3, 4, 5] [6, 7] (H.specOf [(1, fun n m v w => v = .agg #[.int .i64 ai, .int .i64 (ai + an)]), (3, fun n m v w => v = .agg #[.int .i64 bi, .int .i64 (bi + bn)]), (4, BoxS W0.heap.size), (5, BoxS W0.heap.size)])
  (fun w' => Ext W0 w') ?_ (H.stableC_ext _) (by kernel_rfl) (by kernel_rfl) (Keep.drew (Keep.refl _ _)) ?_
 ·exact H.stable_cons (fun n m v w w' h he => h) (H.stable_cons (fun n m v w w' h he => h) (H.stable_cons (fun n m v w w' h he => h.ext he) (H.stable_cons (fun n m v w w' h he => h.ext he) H.stable_nil)))
 refine H.pure_nil ?_
 iterate 1
  (try simp only [Act.put, sqa, sqb, sqc])
  refine H.growP_run rfl rfl rfl ?_
  apply Exists.intro
  refine ⟨fun w' hC hK => ?_, ?_⟩
  ·have a0 := sqw hC a0
   have a1 := sqw hC a1
   have a2 := sqw hC a2
   have a3 := sqw hC a3
   have a4 := sqw hC a4
   have a5 := sqw hC a5
   have a6 := sqw hC a6
   have a7 := sqw hC a7
   have a8 := sqw hC a8
   have a9 := sqw hC a9
   have a10 := sqw hC a10
   have a11 := sqw hC a11
   go_simp
   rfl
 (try simp only [Act.put, sqa, sqb, sqc])
 refine H.growP_eff rfl rfl rfl (fun w' hC hK => ?_) (fun v1 nv1 mv1 hv1 => ?_)
 ·unfold H.growAt
  go_simp
  refine H.grow_call ((tof_any _ _ _ _ _ _ _ _ _ _ _ _ (by omega) (by omega) w').mono ?_)
  rintro e w'' ⟨rfl, h1⟩
  exact ⟨_, rfl, h1, rfl⟩
 obtain ⟨_, _, rfl⟩ := hv1.head
 clear hv1
 iterate 1
  (try simp only [Act.put, sqa, sqb, sqc])
  refine H.growP_run rfl rfl rfl ?_
  apply Exists.intro
  refine ⟨fun w' hC hK => ?_, ?_⟩
  ·have b0 := sqw hC b0
   have b1 := sqw hC b1
   have b2 := sqw hC b2
   have b3 := sqw hC b3
   have b4 := sqw hC b4
   have b5 := sqw hC b5
   have b6 := sqw hC b6
   have b7 := sqw hC b7
   have b8 := sqw hC b8
   have b9 := sqw hC b9
   have b10 := sqw hC b10
   have b11 := sqw hC b11
   go_simp
   rfl
 (try simp only [Act.put, sqa, sqb, sqc])
 refine H.growP_eff rfl rfl rfl (fun w' hC hK => ?_) (fun v3 nv3 mv3 hv3 => ?_)
 ·unfold H.growAt
  go_simp
  refine H.grow_call ((tof_any _ _ _ _ _ _ _ _ _ _ _ _ (by omega) (by omega) w').mono ?_)
  rintro e w'' ⟨rfl, h1⟩
  exact ⟨_, rfl, h1, rfl⟩
 obtain ⟨_, _, rfl⟩ := hv3.head
 clear hv3
 (try simp only [Act.put, sqa, sqb, sqc])
 refine H.growP_eff rfl rfl rfl (fun w' hC hK => ?_) (fun v4 nv4 mv4 hv4 => ?_)
 ·unfold H.growAt
  go_simp
  exact ⟨(Keep.refl _ _).alloc _, rfl, ⟨hC.size, by simp⟩, Blk.new _ _ _⟩
 obtain ⟨_, _, rfl, _, _⟩ := hv4.head
 (try simp only [Act.put, sqa, sqb, sqc])
 refine H.growP_eff rfl rfl rfl (fun w' hC hK => ?_) (fun v5 nv5 mv5 hv5 => ?_)
 ·unfold H.growAt
  go_simp
  exact ⟨(Keep.refl _ _).alloc _, rfl, ⟨hC.size, by simp⟩, Blk.new _ _ _⟩
 obtain ⟨_, _, rfl, _, _⟩ := hv5.head
 refine H.growP_nil fun W1 hC hK => ?_
 have hs4 : BoxS W0.heap.size nv4 mv4 (.pointer (some ⟨nv4, 0, none⟩)) W1 := (hK.1 (4, _) (List.mem_cons_of_mem _ List.mem_cons_self)).1
 have hs5 : BoxS W0.heap.size nv5 mv5 (.pointer (some ⟨nv5, 0, none⟩)) W1 := (hK.1 (5, _) List.mem_cons_self).1
 have hap : mv5 ≤ nv4 ∨ mv4 ≤ nv5 := hK.2 (5, _) List.mem_cons_self (4, _) (List.mem_cons_of_mem _ List.mem_cons_self) (by simp)
 have hne : nv4 ≠ nv5 := by have := hs4.2.1; have := hs5.2.1; omega
 have hC : Ext W0 W1 := hC
 have hz := HSZ.out
 obtain ⟨⟨h4a, _⟩, hb4⟩ := hs4.2
 obtain ⟨⟨h5a, _⟩, hb5⟩ := hs5.2
 have c40 := hb4.cell 0
 have c41 := hb4.cell 1
 have f40 := hb4.frozen 0
 have f41 := hb4.frozen 1
 have c50 := hb5.cell 0
 have c51 := hb5.cell 1
 have f50 := hb5.frozen 0
 have f51 := hb5.frozen 1
 simp at c40 c41 c50 c51
 have hk : Keep (fun q => q = nv4 ∨ q = nv5) W1 (span2 (span2 W1 nv4 ai (ai + an)) nv5 bi (bi + bn)) :=
  ((span2_keep W1 nv4 _ _).mono (G := fun q => q = nv4 ∨ q = nv5) fun _ _ h => .inl h).trans (span2_keep _ _ _ _) fun _ _ h => .inr h
 have HX := hid (show Blk (span2 (span2 W1 nv4 ai (ai + an)) nv5 bi (bi + bn)) nv4 TSPAN #[.int .i64 ai, .int .i64 (ai + an)] from (span2_blk hb4 _ _).keep (span2_keep _ _ _ _) hne)
 have HY := hid (show Blk (span2 (span2 W1 nv4 ai (ai + an)) nv5 bi (bi + bn)) nv5 TSPAN #[.int .i64 bi, .int .i64 (bi + bn)] from span2_blk (hb5.keep (span2_keep _ _ _ _) hne.symm) _ _)
 have HE := hid (show Ext W0 (span2 (span2 W1 nv4 ai (ai + an)) nv5 bi (bi + bn)) from hC.trans hk fun q hq e => by omega)
 have H4 := hid h4a
 have H5 := hid h5a
 clear hs4 hs5 hap hk hC hK hb4 hb5 hv4 hv5 a0 a1 a2 a3 a4 a5 a6 a7 a8 a9 a10 a11 b0 b1 b2 b3 b4 b5 b6 b7 b8 b9 b10 b11 h4a h5a hz
 change wpList _ _ _ (_ :: _ :: []) _ _
 (try simp only [Act.put, sqa, sqb, sqc])
 go_wp2_with fail
 refine NoPanic.normal ?_
 change Exit.then _ _ Exit.normal _ (span2 (span2 W1 nv4 ai (ai + an)) nv5 bi (bi + bn))
 generalize span2 (span2 W1 nv4 ai (ai + an)) nv5 bi (bi + bn) = W2 at *
 clear f40 f41 f50 f51 c40 c41 c50 c51 hC
 have x0' := HX.out.cell 0
 have x1' := HX.out.cell 1
 have y0' := HY.out.cell 0
 have y1' := HY.out.cell 1
 simp at x0' x1' y0' y1'
 go_wp2_with fail
 refine (tmeet_any _ _ _ _ _).mono ?_
 rintro e W3 ⟨rfl, hE3⟩
 have HE3 := hid hE3
 clear hE3
 go_wp2_with fail
 refine (tsize_any _ _ (by omega) (by omega) _).mono ?_
 rintro e W4 ⟨rfl, hE4⟩
 have hE4' := HE3.out.ext hE4
 have HA4 := hid (HA.out.keep (HE.out.ext hE4') id)
 have HX4 := hid (HX.out.keep hE4' id)
 have HY4 := hid (HY.out.keep hE4' id)
 have HE4 := hid (HE.out.ext hE4')
 obtain ⟨ah, hah⟩ : ∃ ah, max (min (bi + bn) ai - bi) 0 = ah := ⟨_, rfl⟩
 rw [hah]
 have HAH := hid hah
 have hahb : 0 ≤ ah ∧ ah ≤ 1152921504606846976 := by omega
 clear hE4 hE4' HX HY HE HE3 x0' x1' y0' y1' hah
 obtain ⟨a0, a1, a2, a3, a4, a5, a6, a7, a8, a9, a10, a11⟩ := blk12 HA4.out
 have z0 := HX4.out.cell 0
 have z1 := HX4.out.cell 1
 have y0 := HY4.out.cell 0
 have y1 := HY4.out.cell 1
 simp at z0 z1 y0 y1
 go_wp2_with fail
 obtain ⟨bo, hbo⟩ : ∃ bo, max (min (ai + an) (bi + bn) - max ai bi) 0 = bo := ⟨_, rfl⟩
 have hbob : 0 ≤ bo ∧ bo ≤ an := by omega
 have HBO := hid hbo
 clear hbo
 refine wp_region_parts [0] [1, 2, 3, 4, 5, 6] [7, 8] (specOf [(4, fun v w => v = .agg #[.int .i64 (max ai bi), .int .i64 (min (ai + an) (bi + bn))]), (5, fun v w => v = .int .i64 bo)])
  (fun w' => Ext W4 w') (stable_cons (fun v w w' h he => h) (stable_cons (fun v w w' h he => h) stable_nil)) (stableC_ext _) (by kernel_rfl) (by kernel_rfl) (Keep.drew (Keep.refl _ _)) ?_
 iterate 1
  (try simp only [Act.put, sqa, sqb, sqc])
  refine pure_run rfl rfl ?_
  apply Exists.intro
  refine ⟨fun w' => ?_, ?_⟩
  ·go_simp
   rfl
 refine pure_nil ?_
 iterate 3
  (try simp only [Act.put, sqa, sqb, sqc])
  refine growP_run rfl rfl rfl ?_
  apply Exists.intro
  refine ⟨fun w' hC hK => ?_, ?_⟩
  ·have a5 := sqw hC a5
   have z0 := sqw hC z0
   have z1 := sqw hC z1
   have y0 := sqw hC y0
   have y1 := sqw hC y1
   go_simp
   rfl
 (try simp only [Act.put, sqa, sqb, sqc])
 refine growP_eff rfl rfl rfl (fun w' hC hK => ?_) (fun v4 hv4 => ?_)
 ·unfold growAt
  go_simp
  refine grow_call ((tmeet_any _ _ _ _ w').mono ?_)
  rintro e w'' ⟨rfl, h1⟩
  exact ⟨_, rfl, h1, rfl⟩
 obtain ⟨_, _, rfl⟩ := hv4.head
 clear hv4
 (try simp only [Act.put, sqa, sqb, sqc])
 refine growP_eff rfl rfl rfl (fun w' hC hK => ?_) (fun v5 hv5 => ?_)
 ·unfold growAt
  go_simp
  refine grow_call ((tsize_any _ _ (by omega) (by omega) w').mono ?_)
  rintro e w'' ⟨rfl, h1⟩
  exact ⟨_, rfl, h1, by rw [HBO.out]⟩
 obtain ⟨_, _, rfl⟩ := hv5.head
 clear hv5
 iterate 1
  (try simp only [Act.put, sqa, sqb, sqc])
  refine growP_run rfl rfl rfl ?_
  apply Exists.intro
  refine ⟨fun w' hC hK => ?_, ?_⟩
  ·go_simp
   rfl
 refine growP_nil fun W5 hC hK => ?_
 have hC : Ext W4 W5 := hC
 have hb5 := HA4.out.keep hC id
 have q5 := hb5.cell 5
 have f5 := hb5.frozen 5
 simp at q5
 have HA5 := hid hb5
 have HE5 := hid (HE4.out.ext hC)
 clear hC hK hb5 a0 a1 a2 a3 a4 a5 a6 a7 a8 a9 a10 a11 z0 z1 y0 y1
 change wpList _ _ _ (_ :: _ :: []) _ _
 (try simp only [Act.put, sqa, sqb, sqc])
 go_wp2_with fail
 refine NoPanic.normal ?_
 have hb6 := HA5.out.set_ 5 (.int .i64 (an - bo))
 have hk6 : Keep (· = w.heap.size) W5 (W5.setCell ⟨w.heap.size, 5, none⟩ (.int .i64 (an - bo))) := (Keep.refl _ _).set1 5 _
 have q3 := hb6.cell 3
 have f3 := hb6.frozen 3
 have f5' := hb6.frozen 5
 have q5' := hb6.cell 5
 simp at q3 q5'
 have HA6 := hid hb6
 have HK6 := hid hk6
 generalize W5.setCell ⟨w.heap.size, 5, none⟩ (.int .i64 (an - bo)) = W6 at *
 clear hb6 hk6 q5 f5
 have hb7 := HA6.out.set_ 3 (.int .i64 (ai - ah))
 have hk7 : Keep (· = w.heap.size) W6 (W6.setCell ⟨w.heap.size, 3, none⟩ (.int .i64 (ai - ah))) := (Keep.refl _ _).set1 3 _
 obtain ⟨c0, c1, c2, c3, c4, c5, c6, c7, c8, c9, c10, c11⟩ := blk12 hb7
 have HA7 := hid hb7
 have HK7 := hid hk7
 clear hb7 hk7
 have hsh : shrinkL ai an bi bn = (ai - ah, an - bo) := by unfold shrinkL; rw [← HAH.out, ← HBO.out]
 by_cases hn : an - bo = 0
 ·have hr : R = [] := by rw [← HR.out, hsh, if_pos hn]
  have HRR := hid hr
  have HN := hid (show (an - bo == 0) = true from by simpa using hn)
  have hn' := HN.out
  clear hr hn hsh
  go_wp2
  go_ret
  rw [HRR.out]
  exact text_nil _ _ _ _ _ _ _ _ _ _ (HE0.out.trans ((HE5.out.mono fun _ _ h => h.elim : Keep (· = w.heap.size) W0 W5).trans HK6.out (fun _ _ h => h) |>.trans HK7.out fun _ _ h => h) fun q hq e => by omega)
 ·have hr : R = [(ai - ah, an - bo)] := by rw [← HR.out, hsh, if_neg hn]
  have HRR := hid hr
  have hn' : (an - bo == 0) = false := by simpa using hn
  clear hr hn hsh
  go_wp2
  go_ret
  rw [HRR.out]
  exact text_one _ _ _ _ _ _ _ _ _ _ (HE0.out.trans ((HE5.out.mono fun _ _ h => h.elim : Keep (· = w.heap.size) W0 W5).trans HK6.out (fun _ _ h => h) |>.trans HK7.out fun _ _ h => h) fun q hq e => by omega) (by simp)
def splitL (ai an bi rb : Int) : List (Int × Int) := if bi - ai ≤ 0 then [(ai + rb, an)] else if an ≤ bi - ai then [(ai, an)] else [(ai, bi - ai), (ai + rb, an - (bi - ai))]
set_option maxRecDepth 100000 in
theorem split_any (k : UInt8) (pA : Option Addr) (pn pc : Nat) (key : ByteArray) (j : Int) (y0 : UInt8) (y1 : Int) (y2 : ByteArray) (A3 : Option Addr) (n3 c3 : Nat) (A4 : Option Addr) (n4 c4 : Nat) (s : ByteArray) (k' p' key' j' u0 u1 u2 u3 u4 : Value) (bs : ByteArray) (ai an bi bn : Int) (hai : Tm ai) (han : Tm an) (hbi : Tm bi) (hbs : bs.size ≤ 140737488355328) (w : World) :
  Calls Tryd.prog 86 #[tcV (U8 k) (.slice pA pn pc) (.string key) ai (.int .i64 j) an (U8 y0) (.int .i64 y1) (.string y2) (.slice A3 n3 c3) (.slice A4 n4 c4) (.string s), tcV k' p' key' bi j' bn u0 u1 u2 u3 u4 (.string bs)] w
   (TextIs (U8 k) (.slice pA pn pc) (.string key) (.int .i64 j) (U8 y0) (.int .i64 y1) (.string y2) (.slice A3 n3 c3) (.slice A4 n4 c4) (.string s) w (splitL ai an bi (Lib.runeCount bs : Nat))) := by
 obtain ⟨hai1, hai2⟩ := hai
 obtain ⟨han1, han2⟩ := han
 obtain ⟨hbi1, hbi2⟩ := hbi
 obtain ⟨W0, hW0⟩ : ∃ W0, (w.alloc (.cells (tcA (U8 k) (.slice pA pn pc) (.string key) ai (.int .i64 j) an (U8 y0) (.int .i64 y1) (.string y2) (.slice A3 n3 c3) (.slice A4 n4 c4) (.string s)) TCOMP)).alloc (.cells (tcA k' p' key' bi j' bn u0 u1 u2 u3 u4 (.string bs)) TCOMP) = W0 := ⟨_, rfl⟩
 have hE0 : Ext w W0 := by rw [← hW0]; exact ((Keep.refl _ _).alloc _).alloc _
 have hsz : W0.heap.size = w.heap.size + 2 := by rw [← hW0]; simp
 have ha : Blk W0 w.heap.size TCOMP (tcA (U8 k) (.slice pA pn pc) (.string key) ai (.int .i64 j) an (U8 y0) (.int .i64 y1) (.string y2) (.slice A3 n3 c3) (.slice A4 n4 c4) (.string s)) := by rw [← hW0]; exact (Blk.new w TCOMP _).alloc _
 have hb : Blk W0 (w.heap.size + 1) TCOMP (tcA k' p' key' bi j' bn u0 u1 u2 u3 u4 (.string bs)) := by
  have := Blk.new (w.alloc (.cells (tcA (U8 k) (.slice pA pn pc) (.string key) ai (.int .i64 j) an (U8 y0) (.int .i64 y1) (.string y2) (.slice A3 n3 c3) (.slice A4 n4 c4) (.string s)) TCOMP)) TCOMP (tcA k' p' key' bi j' bn u0 u1 u2 u3 u4 (.string bs))
  rw [World.size_alloc] at this
  rw [← hW0]; exact this
 have hrb : Lib.runeCount bs ≤ bs.size := Lib.runeCount_le bs
 obtain ⟨rb, hr⟩ : ∃ rb : Nat, Lib.runeCount bs = rb := ⟨_, rfl⟩
 rw [hr] at hrb ⊢
 have HRB := hid hr
 have HLEN := hid (tlen_any bs hbs)
 have HW0 := hid hW0
 have HE0 := hid hE0
 have HA := hid ha
 have HB := hid hb
 have HSZ := hid hsz
 clear hW0 hE0 ha hb hsz hr
 go_enter Tryd.func86, Tryd.ntmps86
 go_wp2_with fail
 rw [HW0.out]
 refine (HLEN.out W0).mono ?_
 rintro e W1 ⟨rfl, hE1⟩
 rw [HRB.out]
 have hA1 := HA.out.keep hE1 id
 have hB1 := HB.out.keep hE1 id
 obtain ⟨a0, a1, a2, a3, a4, a5, a6, a7, a8, a9, a10, a11⟩ := blk12 hA1
 have b3 := hB1.cell 3
 simp at b3
 have f3 := hA1.frozen 3
 have f5 := hA1.frozen 5
 have HA1 := hid hA1
 have HE1 := hid (HE0.out.ext hE1)
 have hz1 := hE1.size
 have HL1 := hid hA1.lt
 clear hA1 hB1 hE1
 by_cases h1 : bi - ai ≤ 0
 ·have HR := hid (show splitL ai an bi rb = [(ai + rb, an)] from by unfold splitL; rw [if_pos h1])
  generalize splitL ai an bi rb = R at *
  go_wp2
  go_ret
  rw [HR.out]
  exact text_one _ _ _ _ _ _ _ _ _ _ (HE1.out.trans (Keep.set1 (b := w.heap.size) (Keep.refl _ _) 3 _) fun q hq e => by omega) (by simp)
 ·by_cases h2 : an ≤ bi - ai
  ·have HR := hid (show splitL ai an bi rb = [(ai, an)] from by unfold splitL; rw [if_neg h1, if_pos h2])
   generalize splitL ai an bi rb = R at *
   go_wp2
   go_ret
   rw [HR.out]
   exact text_one _ _ _ _ _ _ _ _ _ _ HE1.out (by simp)
  ·have HR := hid (show splitL ai an bi rb = [(ai, bi - ai), (ai + rb, an - (bi - ai))] from by unfold splitL; rw [if_neg h1, if_neg h2])
   generalize splitL ai an bi rb = R at *
   have hE2 : Ext W1 (W1.alloc (.cells #[.int .u8 k.toNat, .slice pA pn pc, .string key, .int .i64 (ai + rb), .int .i64 j, .int .i64 (an - (bi - ai)), .int .u8 y0.toNat, .int .i64 y1, .string y2, .slice A3 n3 c3, .slice A4 n4 c4, .string s] TCOMP)) := (Keep.refl _ _).alloc _
   have hn2 : Blk (W1.alloc (.cells #[.int .u8 k.toNat, .slice pA pn pc, .string key, .int .i64 (ai + rb), .int .i64 j, .int .i64 (an - (bi - ai)), .int .u8 y0.toNat, .int .i64 y1, .string y2, .slice A3 n3 c3, .slice A4 n4 c4, .string s] TCOMP)) W1.heap.size TCOMP #[.int .u8 k.toNat, .slice pA pn pc, .string key, .int .i64 (ai + rb), .int .i64 j, .int .i64 (an - (bi - ai)), .int .u8 y0.toNat, .int .i64 y1, .string y2, .slice A3 n3 c3, .slice A4 n4 c4, .string s] := Blk.new _ _ _
   have hz2 : (W1.alloc (.cells #[.int .u8 k.toNat, .slice pA pn pc, .string key, .int .i64 (ai + rb), .int .i64 j, .int .i64 (an - (bi - ai)), .int .u8 y0.toNat, .int .i64 y1, .string y2, .slice A3 n3 c3, .slice A4 n4 c4, .string s] TCOMP)).heap.size = W1.heap.size + 1 := by simp
   have hA2 := HA1.out.keep hE2 id
   have d5 := hA2.cell 5
   have g5 := hA2.frozen 5
   simp only [List.getElem?_toArray, List.getElem?_cons_succ, List.getElem?_cons_zero] at d5
   have hk3 : Keep (· = w.heap.size) (W1.alloc (.cells #[.int .u8 k.toNat, .slice pA pn pc, .string key, .int .i64 (ai + rb), .int .i64 j, .int .i64 (an - (bi - ai)), .int .u8 y0.toNat, .int .i64 y1, .string y2, .slice A3 n3 c3, .slice A4 n4 c4, .string s] TCOMP)) ((W1.alloc (.cells #[.int .u8 k.toNat, .slice pA pn pc, .string key, .int .i64 (ai + rb), .int .i64 j, .int .i64 (an - (bi - ai)), .int .u8 y0.toNat, .int .i64 y1, .string y2, .slice A3 n3 c3, .slice A4 n4 c4, .string s] TCOMP)).setCell ⟨w.heap.size, 5, none⟩ (.int .i64 (bi - ai))) := (Keep.refl _ _).set1 5 _
   have hl := HL1.out
   obtain ⟨e0, e1, e2, e3, e4, e5, e6, e7, e8, e9, e10, e11⟩ := blk12 (hA2.set_ 5 (.int .i64 (bi - ai)))
   obtain ⟨h0, h1', h2', h3, h4, h5, h6, h7, h8, h9, h10, h11⟩ := blk12 (hn2.keep hk3 (by omega))
   have HK3 := hid (HE1.out.trans ((hE2.mono fun _ _ h => h.elim : Keep (· = w.heap.size) W1 _).trans hk3 fun _ _ h => h) fun q hq e => by omega)
   clear hA2 hn2 hk3 hE2 HA1
   go_wp2
   go_ret
   rw [HR.out]
   exact text_two (U8 k) (.slice pA pn pc) (.string key) (.int .i64 j) (U8 y0) (.int .i64 y1) (.string y2) (.slice A3 n3 c3) (.slice A4 n4 c4) (.string s) ((HE1.out.trans (Keep.set1 (b := w.heap.size) (Keep.refl _ _) 5 _) fun q hq e => by omega).alloc _) (by simp)
def put12 (w : World) (g : Nat) (x0 x1 x2 x3 x4 x5 x6 x7 x8 x9 x10 x11 : Value) : World :=
 (((((((((((w.setCell ⟨g, 0, none⟩ x0).setCell ⟨g, 1, none⟩ x1).setCell ⟨g, 2, none⟩ x2).setCell ⟨g, 3, none⟩ x3).setCell ⟨g, 4, none⟩ x4).setCell ⟨g, 5, none⟩ x5).setCell ⟨g, 6, none⟩ x6).setCell ⟨g, 7, none⟩ x7).setCell ⟨g, 8, none⟩ x8).setCell ⟨g, 9, none⟩ x9).setCell ⟨g, 10, none⟩ x10).setCell ⟨g, 11, none⟩ x11
theorem put12_keep (w : World) (g : Nat) (x0 x1 x2 x3 x4 x5 x6 x7 x8 x9 x10 x11 : Value) : Keep (· = g) w (put12 w g x0 x1 x2 x3 x4 x5 x6 x7 x8 x9 x10 x11) :=
 ((((((((((((Keep.refl _ _).set1 0 _).set1 1 _).set1 2 _).set1 3 _).set1 4 _).set1 5 _).set1 6 _).set1 7 _).set1 8 _).set1 9 _).set1 10 _).set1 11 _
theorem put12_blk {w : World} {g : Nat} {T : TypeId} {z0 z1 z2 z3 z4 z5 z6 z7 z8 z9 z10 z11 : Value} (h : Blk w g T #[z0, z1, z2, z3, z4, z5, z6, z7, z8, z9, z10, z11]) (x0 x1 x2 x3 x4 x5 x6 x7 x8 x9 x10 x11 : Value) :
  Blk (put12 w g x0 x1 x2 x3 x4 x5 x6 x7 x8 x9 x10 x11) g T #[x0, x1, x2, x3, x4, x5, x6, x7, x8, x9, x10, x11] := by
 have h0 : Blk _ g T #[x0, z1, z2, z3, z4, z5, z6, z7, z8, z9, z10, z11] := h.set_ 0 x0
 have h1 : Blk _ g T #[x0, x1, z2, z3, z4, z5, z6, z7, z8, z9, z10, z11] := h0.set_ 1 x1
 have h2 : Blk _ g T #[x0, x1, x2, z3, z4, z5, z6, z7, z8, z9, z10, z11] := h1.set_ 2 x2
 have h3 : Blk _ g T #[x0, x1, x2, x3, z4, z5, z6, z7, z8, z9, z10, z11] := h2.set_ 3 x3
 have h4 : Blk _ g T #[x0, x1, x2, x3, x4, z5, z6, z7, z8, z9, z10, z11] := h3.set_ 4 x4
 have h5 : Blk _ g T #[x0, x1, x2, x3, x4, x5, z6, z7, z8, z9, z10, z11] := h4.set_ 5 x5
 have h6 : Blk _ g T #[x0, x1, x2, x3, x4, x5, x6, z7, z8, z9, z10, z11] := h5.set_ 6 x6
 have h7 : Blk _ g T #[x0, x1, x2, x3, x4, x5, x6, x7, z8, z9, z10, z11] := h6.set_ 7 x7
 have h8 : Blk _ g T #[x0, x1, x2, x3, x4, x5, x6, x7, x8, z9, z10, z11] := h7.set_ 8 x8
 have h9 : Blk _ g T #[x0, x1, x2, x3, x4, x5, x6, x7, x8, x9, z10, z11] := h8.set_ 9 x9
 have h10 : Blk _ g T #[x0, x1, x2, x3, x4, x5, x6, x7, x8, x9, x10, z11] := h9.set_ 10 x10
 have h11 : Blk _ g T #[x0, x1, x2, x3, x4, x5, x6, x7, x8, x9, x10, x11] := h10.set_ 11 x11
 exact h11
def shiftL (ai : Int) (bk : UInt8) (bi bn rb : Int) (left : Bool) : Int :=
 if bk = 8 then (if bi < ai ∨ (bi = ai ∧ left = false) then ai + rb else ai)
 else if bi + bn ≤ ai then ai - bn else if bi < ai then bi else ai
set_option maxRecDepth 100000 in
theorem shift_del (k : UInt8) (pA : Option Addr) (pn pc : Nat) (key : ByteArray) (j : Int) (y0 : UInt8) (y1 : Int) (y2 : ByteArray) (A3 : Option Addr) (n3 c3 : Nat) (A4 : Option Addr) (n4 c4 : Nat) (s : ByteArray) (bk : UInt8) (p' key' j' u0 u1 u2 u3 u4 : Value) (bs : ByteArray) (ai an bi bn : Int) (left : Bool) (hai : Tm ai) (hbi : Tm bi) (hbn : Tm bn) (hbs : bs.size ≤ 140737488355328) (hk : ¬ bk = 8) (w : World) :
  Calls Tryd.prog 85 #[tcV (U8 k) (.slice pA pn pc) (.string key) ai (.int .i64 j) an (U8 y0) (.int .i64 y1) (.string y2) (.slice A3 n3 c3) (.slice A4 n4 c4) (.string s), tcV (U8 bk) p' key' bi j' bn u0 u1 u2 u3 u4 (.string bs), .bool left] w
   fun e w' => e = .returned (tcV (U8 k) (.slice pA pn pc) (.string key) (shiftL ai bk bi bn (Lib.runeCount bs : Nat) left) (.int .i64 j) an (U8 y0) (.int .i64 y1) (.string y2) (.slice A3 n3 c3) (.slice A4 n4 c4) (.string s)) ∧ Ext w w' := by
 obtain ⟨hai1, hai2⟩ := hai
 obtain ⟨hbn1, hbn2⟩ := hbn
 obtain ⟨hbi1, hbi2⟩ := hbi
 obtain ⟨Wb, hWb⟩ : ∃ Wb, (w.alloc (.cells (tcA (U8 k) (.slice pA pn pc) (.string key) ai (.int .i64 j) an (U8 y0) (.int .i64 y1) (.string y2) (.slice A3 n3 c3) (.slice A4 n4 c4) (.string s)) TCOMP)).alloc (.cells (tcA (U8 bk) p' key' bi j' bn u0 u1 u2 u3 u4 (.string bs)) TCOMP) = Wb := ⟨_, rfl⟩
 have hzb : Wb.heap.size = w.heap.size + 2 := by rw [← hWb]; simp
 obtain ⟨W0, hW0⟩ : ∃ W0, Wb.alloc (.cells #[.int .u8 0, .slice none 0 0, .string ⟨#[]⟩, .int .i64 0, .int .i64 0, .int .i64 0, .int .u8 0, .int .i64 0, .string ⟨#[]⟩, .slice none 0 0, .slice none 0 0, .string ⟨#[]⟩] TCOMP) = W0 := ⟨_, rfl⟩
 have hE0 : Ext w W0 := by rw [← hW0, ← hWb]; exact (((Keep.refl _ _).alloc _).alloc _).alloc _
 have hsz : W0.heap.size = w.heap.size + 3 := by rw [← hW0]; simp [hzb]
 have ha : Blk W0 w.heap.size TCOMP (tcA (U8 k) (.slice pA pn pc) (.string key) ai (.int .i64 j) an (U8 y0) (.int .i64 y1) (.string y2) (.slice A3 n3 c3) (.slice A4 n4 c4) (.string s)) := by rw [← hW0, ← hWb]; exact ((Blk.new w TCOMP _).alloc _).alloc _
 have hb : Blk W0 (w.heap.size + 1) TCOMP (tcA (U8 bk) p' key' bi j' bn u0 u1 u2 u3 u4 (.string bs)) := by
  have := (Blk.new (w.alloc (.cells (tcA (U8 k) (.slice pA pn pc) (.string key) ai (.int .i64 j) an (U8 y0) (.int .i64 y1) (.string y2) (.slice A3 n3 c3) (.slice A4 n4 c4) (.string s)) TCOMP)) TCOMP (tcA (U8 bk) p' key' bi j' bn u0 u1 u2 u3 u4 (.string bs))).alloc (.cells #[.int .u8 0, .slice none 0 0, .string ⟨#[]⟩, .int .i64 0, .int .i64 0, .int .i64 0, .int .u8 0, .int .i64 0, .string ⟨#[]⟩, .slice none 0 0, .slice none 0 0, .string ⟨#[]⟩] TCOMP)
  rw [World.size_alloc] at this
  rw [← hW0, ← hWb]; exact this
 have hc : Blk W0 (w.heap.size + 2) TCOMP #[.int .u8 0, .slice none 0 0, .string ⟨#[]⟩, .int .i64 0, .int .i64 0, .int .i64 0, .int .u8 0, .int .i64 0, .string ⟨#[]⟩, .slice none 0 0, .slice none 0 0, .string ⟨#[]⟩] := by rw [← hW0, ← hzb]; exact Blk.new _ _ _
 have hrb : Lib.runeCount bs ≤ bs.size := Lib.runeCount_le bs
 obtain ⟨rb, hr⟩ : ∃ rb : Nat, Lib.runeCount bs = rb := ⟨_, rfl⟩
 rw [hr] at hrb ⊢
 have HRB := hid hr
 have HLEN := hid (tlen_any bs hbs)
 have HW0 := hid (show ((w.alloc (.cells (tcA (U8 k) (.slice pA pn pc) (.string key) ai (.int .i64 j) an (U8 y0) (.int .i64 y1) (.string y2) (.slice A3 n3 c3) (.slice A4 n4 c4) (.string s)) TCOMP)).alloc (.cells (tcA (U8 bk) p' key' bi j' bn u0 u1 u2 u3 u4 (.string bs)) TCOMP)).alloc (.cells #[.int .u8 0, .slice none 0 0, .string ⟨#[]⟩, .int .i64 0, .int .i64 0, .int .i64 0, .int .u8 0, .int .i64 0, .string ⟨#[]⟩, .slice none 0 0, .slice none 0 0, .string ⟨#[]⟩] TCOMP) = W0 from by rw [hWb, hW0])
 have HE0 := hid hE0
 have HA := hid ha
 have HB := hid hb
 have HC := hid hc
 have HSZ := hid hsz
 obtain ⟨sh, hsh⟩ : ∃ sh, shiftL ai bk bi bn rb left = sh := ⟨_, rfl⟩
 rw [hsh]
 have HSH := hid hsh
 clear hW0 hE0 ha hb hc hsz hr hWb hzb hsh
 have hk8 : ((bk.toNat : Int) == 8) = false := by
  rcases tkind_cases bk with rfl | rfl | ⟨_, h, _⟩
  ·exact absurd rfl hk
  ·rfl
  ·exact h
 have HS := hid (show sh = if bi + bn ≤ ai then ai - bn else if bi < ai then bi else ai from by rw [← HSH.out]; unfold shiftL; rw [if_neg hk])
 clear HLEN HSH hk
 go_enter Tryd.func85, Tryd.ntmps85
 go_wp2_with fail
 rw [HW0.out]
 refine (tof_any _ _ _ _ _ _ _ _ _ _ _ _ (by omega) (by omega) W0).mono ?_
 rintro e W1 ⟨rfl, hE1⟩
 obtain ⟨W2, hW2⟩ : ∃ W2, W1.alloc (.cells #[.int .i64 bi, .int .i64 (bi + bn)] TSPAN) = W2 := ⟨_, rfl⟩
 have hE2 : Ext W0 W2 := by rw [← hW2]; exact hE1.alloc _
 have hY : Blk W2 W1.heap.size TSPAN #[.int .i64 bi, .int .i64 (bi + bn)] := by rw [← hW2]; exact Blk.new _ _ _
 have HA2 := hid (HA.out.keep hE2 id)
 have HB2 := hid (HB.out.keep hE2 id)
 have HC2 := hid (HC.out.keep hE2 id)
 have HE2 := hid (HE0.out.ext hE2)
 have z1 := hY.cell 1
 simp at z1
 have a3 := HA2.out.cell 3
 have b3 := HB2.out.cell 3
 have b5 := HB2.out.cell 5
 simp only [List.getElem?_toArray, List.getElem?_cons_succ, List.getElem?_cons_zero] at a3 b3 b5
 have f3 := HA2.out.frozen 3
 clear hE1 hE2 hY
 by_cases hc1 : bi + bn ≤ ai
 ·have HS2 := hid (show sh = ai - bn from by rw [HS.out, if_pos hc1])
  obtain ⟨W3, hW3⟩ : ∃ W3, W2.setCell ⟨w.heap.size, 3, none⟩ (.int .i64 (ai - bn)) = W3 := ⟨_, rfl⟩
  have hkA : Keep (· = w.heap.size) W2 W3 := by rw [← hW3]; exact (Keep.refl _ _).set1 3 _
  have HA3 := hid (show Blk W3 w.heap.size TCOMP _ from hW3 ▸ HA2.out.set_ 3 (.int .i64 (ai - bn)))
  have HC3 := hid (HC2.out.keep hkA (by omega))
  have HE3 := hid (HE2.out.trans hkA fun q hq e => by omega)
  clear hkA
  obtain ⟨m0, m1, m2, m3, m4, m5, m6, m7, m8, m9, m10, m11⟩ := blk12 HA3.out
  obtain ⟨c0, c1, c2, c3', c4', c5, c6, c7, c8, c9, c10, c11⟩ := blk12 HC3.out
  obtain ⟨g0, g1, g2, g3, g4, g5, g6, g7, g8, g9, g10, g11⟩ := sqf12 HC3.out
  clear HS HRB HB HA HC HSZ HE0 HA2 HB2 HC2 HE2 HA3 HW0
  go_wp2
  have HR := hid (put12_blk HC3.out (U8 k) (.slice pA pn pc) (.string key) (.int .i64 (ai - bn)) (.int .i64 j) (.int .i64 an) (U8 y0) (.int .i64 y1) (.string y2) (.slice A3 n3 c3) (.slice A4 n4 c4) (.string s))
  have HEF := hid (HE3.out.trans (put12_keep W3 (w.heap.size + 2) (U8 k) (.slice pA pn pc) (.string key) (.int .i64 (ai - bn)) (.int .i64 j) (.int .i64 an) (U8 y0) (.int .i64 y1) (.string y2) (.slice A3 n3 c3) (.slice A4 n4 c4) (.string s)) fun q hq e => by omega)
  change bodyPost _ _ _ _ _ (put12 W3 (w.heap.size + 2) (U8 k) (.slice pA pn pc) (.string key) (.int .i64 (ai - bn)) (.int .i64 j) (.int .i64 an) (U8 y0) (.int .i64 y1) (.string y2) (.slice A3 n3 c3) (.slice A4 n4 c4) (.string s))
  obtain ⟨r0, r1, r2, r3, r4, r5, r6, r7, r8, r9, r10, r11⟩ := blk12 HR.out
  generalize put12 W3 (w.heap.size + 2) (U8 k) (.slice pA pn pc) (.string key) (.int .i64 (ai - bn)) (.int .i64 j) (.int .i64 an) (U8 y0) (.int .i64 y1) (.string y2) (.slice A3 n3 c3) (.slice A4 n4 c4) (.string s) = WF at *
  refine bodyPost_ret (v := tcV (U8 k) (.slice pA pn pc) (.string key) (ai - bn) (.int .i64 j) an (U8 y0) (.int .i64 y1) (.string y2) (.slice A3 n3 c3) (.slice A4 n4 c4) (.string s)) (by simp [results, Tryd.results85, go_sem, r0, r1, r2, r3, r4, r5, r6, r7, r8, r9, r10, r11]) rfl ⟨by rw [HS2.out], HEF.out⟩
 ·by_cases hc2 : bi < ai
  ·have HS2 := hid (show sh = bi from by rw [HS.out, if_neg hc1, if_pos hc2])
   obtain ⟨W3, hW3⟩ : ∃ W3, W2.setCell ⟨w.heap.size, 3, none⟩ (.int .i64 (bi)) = W3 := ⟨_, rfl⟩
   have hkA : Keep (· = w.heap.size) W2 W3 := by rw [← hW3]; exact (Keep.refl _ _).set1 3 _
   have HA3 := hid (show Blk W3 w.heap.size TCOMP _ from hW3 ▸ HA2.out.set_ 3 (.int .i64 (bi)))
   have HC3 := hid (HC2.out.keep hkA (by omega))
   have HE3 := hid (HE2.out.trans hkA fun q hq e => by omega)
   clear hkA
   obtain ⟨m0, m1, m2, m3, m4, m5, m6, m7, m8, m9, m10, m11⟩ := blk12 HA3.out
   obtain ⟨c0, c1, c2, c3', c4', c5, c6, c7, c8, c9, c10, c11⟩ := blk12 HC3.out
   obtain ⟨g0, g1, g2, g3, g4, g5, g6, g7, g8, g9, g10, g11⟩ := sqf12 HC3.out
   clear HS HRB HB HA HC HSZ HE0 HA2 HB2 HC2 HE2 HA3 HW0
   go_wp2
   have HR := hid (put12_blk HC3.out (U8 k) (.slice pA pn pc) (.string key) (.int .i64 (bi)) (.int .i64 j) (.int .i64 an) (U8 y0) (.int .i64 y1) (.string y2) (.slice A3 n3 c3) (.slice A4 n4 c4) (.string s))
   have HEF := hid (HE3.out.trans (put12_keep W3 (w.heap.size + 2) (U8 k) (.slice pA pn pc) (.string key) (.int .i64 (bi)) (.int .i64 j) (.int .i64 an) (U8 y0) (.int .i64 y1) (.string y2) (.slice A3 n3 c3) (.slice A4 n4 c4) (.string s)) fun q hq e => by omega)
   change bodyPost _ _ _ _ _ (put12 W3 (w.heap.size + 2) (U8 k) (.slice pA pn pc) (.string key) (.int .i64 (bi)) (.int .i64 j) (.int .i64 an) (U8 y0) (.int .i64 y1) (.string y2) (.slice A3 n3 c3) (.slice A4 n4 c4) (.string s))
   obtain ⟨r0, r1, r2, r3, r4, r5, r6, r7, r8, r9, r10, r11⟩ := blk12 HR.out
   generalize put12 W3 (w.heap.size + 2) (U8 k) (.slice pA pn pc) (.string key) (.int .i64 (bi)) (.int .i64 j) (.int .i64 an) (U8 y0) (.int .i64 y1) (.string y2) (.slice A3 n3 c3) (.slice A4 n4 c4) (.string s) = WF at *
   refine bodyPost_ret (v := tcV (U8 k) (.slice pA pn pc) (.string key) (bi) (.int .i64 j) an (U8 y0) (.int .i64 y1) (.string y2) (.slice A3 n3 c3) (.slice A4 n4 c4) (.string s)) (by simp [results, Tryd.results85, go_sem, r0, r1, r2, r3, r4, r5, r6, r7, r8, r9, r10, r11]) rfl ⟨by rw [HS2.out], HEF.out⟩
  ·have HS2 := hid (show sh = ai from by rw [HS.out, if_neg hc1, if_neg hc2])
   have HA3 := HA2
   have HC3 := HC2
   have HE3 := HE2
   obtain ⟨m0, m1, m2, m3, m4, m5, m6, m7, m8, m9, m10, m11⟩ := blk12 HA3.out
   obtain ⟨c0, c1, c2, c3', c4', c5, c6, c7, c8, c9, c10, c11⟩ := blk12 HC3.out
   obtain ⟨g0, g1, g2, g3, g4, g5, g6, g7, g8, g9, g10, g11⟩ := sqf12 HC3.out
   clear HS HRB HB HA HC HSZ HE0 HA2 HB2 HC2 HE2 HA3 HW0
   go_wp2
   have HR := hid (put12_blk HC3.out (U8 k) (.slice pA pn pc) (.string key) (.int .i64 (ai)) (.int .i64 j) (.int .i64 an) (U8 y0) (.int .i64 y1) (.string y2) (.slice A3 n3 c3) (.slice A4 n4 c4) (.string s))
   have HEF := hid (HE3.out.trans (put12_keep W2 (w.heap.size + 2) (U8 k) (.slice pA pn pc) (.string key) (.int .i64 (ai)) (.int .i64 j) (.int .i64 an) (U8 y0) (.int .i64 y1) (.string y2) (.slice A3 n3 c3) (.slice A4 n4 c4) (.string s)) fun q hq e => by omega)
   change bodyPost _ _ _ _ _ (put12 W2 (w.heap.size + 2) (U8 k) (.slice pA pn pc) (.string key) (.int .i64 (ai)) (.int .i64 j) (.int .i64 an) (U8 y0) (.int .i64 y1) (.string y2) (.slice A3 n3 c3) (.slice A4 n4 c4) (.string s))
   obtain ⟨r0, r1, r2, r3, r4, r5, r6, r7, r8, r9, r10, r11⟩ := blk12 HR.out
   generalize put12 W2 (w.heap.size + 2) (U8 k) (.slice pA pn pc) (.string key) (.int .i64 (ai)) (.int .i64 j) (.int .i64 an) (U8 y0) (.int .i64 y1) (.string y2) (.slice A3 n3 c3) (.slice A4 n4 c4) (.string s) = WF at *
   refine bodyPost_ret (v := tcV (U8 k) (.slice pA pn pc) (.string key) (ai) (.int .i64 j) an (U8 y0) (.int .i64 y1) (.string y2) (.slice A3 n3 c3) (.slice A4 n4 c4) (.string s)) (by simp [results, Tryd.results85, go_sem, r0, r1, r2, r3, r4, r5, r6, r7, r8, r9, r10, r11]) rfl ⟨by rw [HS2.out], HEF.out⟩
end Go.Proofs.YtioplgfopillnaaDoor
