/- TurnK, TurnL, TurnM: laid together. -/
import Derived.Test.YtioplgfopillnaaDoorMeB19
import Derived.Test.YtioplgfopillnaaDoorMeB21
import Derived.Test.YtioplgfopillnaaDoorMeB22
set_option linter.unusedSimpArgs false
set_option linter.unusedVariables false
set_option maxHeartbeats 25600000
set_option maxRecDepth 20000
namespace Go.Proofs.YtioplgfopillnaaDoor
open Go.RowKit
theorem stp_at {w : World} {base g cap n k : Nat} {T : TypeId} {S : BS} {xs : List St} {s : St} (h : Own ESt w base T S (.slice (some ⟨g, 0, none⟩) n cap) xs) (hk : k < xs.length) (hs : xs[k] = s) : StepAt w g (k * 3) s := by
 obtain ⟨c0, h1, h2⟩ := h.at_ ESt.ok hk
 have h1 : c0 = [.bool xs[k].list, .int .i64 xs[k].i, .string xs[k].key] := h1
 rw [hs] at h1
 subst h1
 exact ⟨h2 0 _ rfl, h2 1 _ rfl, h2 2 _ rfl, h.frozen _⟩
theorem stp_set {w : World} {base g cap k : Nat} {T : TypeId} {xs : List St} {s : St} (h : Own ESt w base T (fun _ => False) (.slice (some ⟨g, 0, none⟩) xs.length cap) xs) (hk : k < xs.length) (hs : xs[k] = s) (i : Int) :
  Own ESt (w.setCell ⟨g, k * 3 + 1, none⟩ (.int .i64 i)) base T (fun _ => False) (.slice (some ⟨g, 0, none⟩) xs.length cap) (xs.set k { s with i := i }) := by
 rcases h with ⟨h, _⟩ | ⟨g', cap', cur, e, h1, h2, h3, h4, h5, h6⟩
 ·cases h
 ·injection e with e1 e2 e3
  injection e1 with e1
  injection e1 with e1 _ _
  subst e1 e3
  have h5 : cur.size = cap * 3 := h5
  have h6' := h6
  obtain ⟨c0, a, b⟩ := h6.get ESt.ok hk
  have a : c0 = [.bool xs[k].list, .int .i64 xs[k].i, .string xs[k].key] := a
  rw [hs] at a
  subst a
  have e3 : (k + 1) * 3 ≤ xs.length * 3 := Nat.mul_le_mul_right _ (by omega)
  have e4 : xs.length * 3 ≤ cap * 3 := Nat.mul_le_mul_right _ h3
  have q0 := b 0 _ rfl
  have q2 := b 2 _ rfl
  rw [List.getElem?_take_of_lt (by show k * 3 + 0 < xs.length * 3; omega)] at q0
  rw [List.getElem?_take_of_lt (by show k * 3 + 2 < xs.length * 3; omega)] at q2
  have q0 : cur.toList[k * 3 + 0]? = some (.bool s.list) := q0
  have q2 : cur.toList[k * 3 + 2]? = some (.string s.key) := q2
  have hl : (cur.set! (k * 3 + 1) (.int .i64 i)).toList = cur.toList.take (k * ESt.size) ++ [.bool s.list, .int .i64 i, .string s.key] ++ cur.toList.drop (k * ESt.size + ESt.size) := by
   show (cur.set! (k * 3 + 1) (.int .i64 i)).toList = cur.toList.take (k * 3) ++ [.bool s.list, .int .i64 i, .string s.key] ++ cur.toList.drop (k * 3 + 3)
   have hlen : cur.toList.length = cap * 3 := by simpa using h5
   apply List.ext_getElem?
   intro n
   rw [Array.set!_eq_setIfInBounds, Array.toList_setIfInBounds, List.getElem?_set]
   rw [List.append_assoc]
   by_cases n1 : n < k * 3
   ·rw [if_neg (by omega), List.getElem?_append_left (by simp; omega), List.getElem?_take_of_lt n1]
   ·rw [List.getElem?_append_right (by simp; omega)]
    simp only [List.length_take]
    rw [Nat.min_eq_left (by omega)]
    by_cases n2 : n < k * 3 + 3
    ·rcases (show n = k * 3 ∨ n = k * 3 + 1 ∨ n = k * 3 + 2 by omega) with rfl | rfl | rfl
     ·rw [if_neg (by omega)]; simpa using q0
     ·rw [if_pos rfl, if_pos (by omega), show k * 3 + 1 - k * 3 = 1 from by omega]; rfl
     ·rw [if_neg (by omega), show k * 3 + 2 - k * 3 = 2 from by omega]; exact q2
    ·rw [if_neg (by omega), List.getElem?_append_right (by simp; omega), List.getElem?_drop]
     congr 1
     simp
     omega
  have hb : Blk (w.setCell ⟨g, k * 3 + 1, none⟩ (.int .i64 i)) g T (cur.set! (k * 3 + 1) (.int .i64 i)) := h2.set_ _ _
  have := own_set (S := fun _ => False) (S2 := fun _ => False) ESt.ok h6' h1 h3 h4 h5 hk ((Keep.refl (· = g) w).set1 _ _) hb hl (x := { s with i := i }) rfl (fun h => h)
  exact this.more ESt.ok fun k _ h => h.elim id id
def BelIs (w : World) (x y : Cp) (k : Nat) (s : St) (e : Ending) (w' : World) : Prop := ((thrL s y).2 = false ∧ e = .returned (.slice none 0 0) ∧ Ext w w') ∨ ((thrL s y).2 = true ∧ TurnOne w { x with path := x.path.set k { s with i := (thrL s y).1 } } e w')
theorem thr_own {w w' : World} {base g cap k : Nat} {T : TypeId} {xs : List St} {s : St} {y : Cp} {e : Ending} (h : Own ESt w base T (fun _ => False) (.slice (some ⟨g, 0, none⟩) xs.length cap) xs) (hk : k < xs.length) (hs : xs[k] = s) (ht : ThrIs w g (k * 3) s y e w') :
  e = .returned (.bool (thrL s y).2) ∧ Keep (· = g) w w' ∧ Own ESt w' base T (fun _ => False) (.slice (some ⟨g, 0, none⟩) xs.length cap) (xs.set k { s with i := (thrL s y).1 }) := by
 obtain ⟨rfl, w1, hE, rfl | ⟨rfl, hi⟩⟩ := ht
 ·exact ⟨rfl, (hE.mono fun _ _ h => h.elim).set1 _ _, stp_set (h.ext ESt.ok hE) hk hs _⟩
 ·refine ⟨rfl, hE.mono fun _ _ h => h.elim, ?_⟩
  have : xs.set k { s with i := (thrL s y).1 } = xs := by rw [hi, show ({ s with i := s.i } : St) = s from rfl, ← hs]; exact List.set_getElem_self hk
  rw [this]
  exact h.ext ESt.ok hE
theorem turn_below (w : World) (S S2 : BS) (u t : Value) (x y : Cp) (k : Nat) (s : St) (left : Bool) (hx : CAt w S u x) (hy : CAt w S2 t y) (hp : x.path.length ≤ 1000) (hv : x.v.size ≤ 1000000) (hn : y.path <+: x.path) (hk : y.path.length < x.path.length) (hkk : y.path.length = k) (hs : x.path[k]? = some s) (hsi : Sm s.i) (hyi : Sm y.i) (hyj : Sm y.j) :
  Calls Tryd.prog 13 #[u, t, .bool left] w (BelIs w x y k s) := by
 obtain ⟨pv, lv, ov, rfl, h1, h2, h3⟩ := hx.cut
 have HK := hid hk
 have HS := hid hs
 have HSI := hid hsi
 have HYI := hid hyi
 have HYJ := hid hyj
 have HKK := hid hkk
 obtain ⟨Ap, cp, rfl, _⟩ := h1.shape
 obtain ⟨Al, cl, rfl, _⟩ := h2.shape
 obtain ⟨Ao, co, rfl, _⟩ := h3.shape
 obtain ⟨qv, mv, nv, rfl, k1, k2, k3⟩ := hy.cut
 obtain ⟨Bp, dp, rfl, _⟩ := k1.shape
 obtain ⟨Bl, dl, rfl, _⟩ := k2.shape
 obtain ⟨Bo, do_, rfl, _⟩ := k3.shape
 obtain ⟨W, hW⟩ : ∃ W, (w.alloc (.cells (cpCells x (.slice Ap x.path.length cp) (.slice Al x.v.l.length cl) (.slice Ao x.v.o.length co)) TCMP)).alloc (.cells (cpCells y (.slice Bp y.path.length dp) (.slice Bl y.v.l.length dl) (.slice Bo y.v.o.length do_)) TCMP) = W := ⟨_, rfl⟩
 have hE : Ext w W := by rw [← hW]; exact ((Keep.refl _ _).alloc _).alloc _
 have hsz : W.heap.size = w.heap.size + 2 := by rw [← hW]; simp
 have hb : Blk W w.heap.size TCMP (cpCells x (.slice Ap x.path.length cp) (.slice Al x.v.l.length cl) (.slice Ao x.v.o.length co)) := by rw [← hW]; exact (Blk.new _ _ _).alloc _
 have hc : Blk W (w.heap.size + 1) TCMP (cpCells y (.slice Bp y.path.length dp) (.slice Bl y.v.l.length dl) (.slice Bo y.v.o.length do_)) := by
  have := Blk.new (w.alloc (.cells (cpCells x (.slice Ap x.path.length cp) (.slice Al x.v.l.length cl) (.slice Ao x.v.o.length co)) TCMP)) TCMP (cpCells y (.slice Bp y.path.length dp) (.slice Bl y.v.l.length dl) (.slice Bo y.v.o.length do_))
  rw [World.size_alloc, hW] at this
  exact this
 have HX := hid (show CAt W (fun k => k < w.heap.size) (.agg (cpCells x (.slice Ap x.path.length cp) (.slice Al x.v.l.length cl) (.slice Ao x.v.o.length co))) x from (CAt.ext ⟨_, _, _, rfl, h1, h2, h3⟩ hE).more fun k _ h => h.2)
 have HQ := hid ((k1.more (S' := fun k => k < w.heap.size) ESt.ok fun k _ h => h.2).ext ESt.ok hE)
 have HB := hid hb
 have HC := hid hc
 have HE := hid hE
 have HN := hid hn
 obtain ⟨a0, a1, a2, a3, a4, a5, a6, a7, a8, a9, a10, a11⟩ := sq12 hb
 have HSZ := hid hsz
 clear h1 h2 h3 k1 k2 k3 hsi hyi hyj hs hkk hE hb hc hx hy hn
 go_enter Tryd.func13, Tryd.ntmps13
 go_wp2_with fail
 refine (comp_copyO W _ _ x HX.out hp hv).mono ?_
 rintro e X1 ⟨pv2, lv2, ov2, rfl, g1, g2, g3, hE1⟩
 obtain ⟨g, cp2, rfl, hbg, hgX, hlc2, hcm2⟩ := g1.form (by omega)
 obtain ⟨Al2, cl2, rfl, _⟩ := g2.shape
 obtain ⟨Ao2, co2, rfl, _⟩ := g3.shape
 have hs1 := hE1.size
 have hb := HB.out.keep hE1 id
 obtain ⟨X2, hX2⟩ : ∃ X2, ((((((((((((X1.setCell ⟨w.heap.size, 0, none⟩ (.int .u8 (x.kind.toNat : Int))).setCell ⟨w.heap.size, 1, none⟩ (.slice (some ⟨g, 0, none⟩) x.path.length cp2)).setCell ⟨w.heap.size, 2, none⟩ (.string x.key)).setCell ⟨w.heap.size, 3, none⟩ (.int .i64 x.i)).setCell ⟨w.heap.size, 4, none⟩ (.int .i64 x.j)).setCell ⟨w.heap.size, 5, none⟩ (.int .i64 x.n)).setCell ⟨w.heap.size, 6, none⟩ (.int .u8 (x.v.kind.toNat : Int))).setCell ⟨w.heap.size, 7, none⟩ (.int .i64 x.v.n)).setCell ⟨w.heap.size, 8, none⟩ (.string x.v.s)).setCell ⟨w.heap.size, 9, none⟩ (.slice Al2 x.v.l.length cl2)).setCell ⟨w.heap.size, 10, none⟩ (.slice Ao2 x.v.o.length co2)).setCell ⟨w.heap.size, 11, none⟩ (.string x.s)) = X2 := ⟨_, rfl⟩
 have hk : Keep (· = w.heap.size) X1 X2 := by rw [← hX2]; exact ((((((((((((Keep.refl (· = w.heap.size) X1).set1 0 _).set1 1 _).set1 2 _).set1 3 _).set1 4 _).set1 5 _).set1 6 _).set1 7 _).set1 8 _).set1 9 _).set1 10 _).set1 11 _
 have hb2 : Blk X2 w.heap.size TCMP (cpCells x (.slice (some ⟨g, 0, none⟩) x.path.length cp2) (.slice Al2 x.v.l.length cl2) (.slice Ao2 x.v.o.length co2)) := by rw [← hX2]; exact set12f hb rfl (.int .u8 (x.kind.toNat : Int)) (.slice (some ⟨g, 0, none⟩) x.path.length cp2) (.string x.key) (.int .i64 x.i) (.int .i64 x.j) (.int .i64 x.n) (.int .u8 (x.v.kind.toNat : Int)) (.int .i64 x.v.n) (.string x.v.s) (.slice Al2 x.v.l.length cl2) (.slice Ao2 x.v.o.length co2) (.string x.s)
 have HG1 := hid (g1.keep ESt.ok hk (fun _ h => h.elim) fun k h e => by have := (g1.lt h).1; omega)
 have HG2 := hid (g2.keep EVal.ok hk fun k h e => by have := h.1; omega)
 have HG3 := hid (g3.keep EField.ok hk fun k h e => by have := h.1; omega)
 have HBG := hid (And.intro hbg hgX)
 have HSX := hid hE1.size
 have HB2 := hid hb2
 have HC2 := hid ((HC.out.keep hE1 id).keep hk (by omega))
 have HQ2 := hid ((HQ.out.ext ESt.ok hE1).keep ESt.ok hk fun k h e => by omega)
 have HE2 := hid ((HE.out.ext hE1).trans hk fun k hk e => by omega)
 have HX2 := hid hX2
 obtain ⟨b0, b1, b2, b3, b4, b5, b6, b7, b8, b9, b10, b11⟩ := sq12 hb
 obtain ⟨f0, f1, f2, f3, f4, f5, f6, f7, f8, f9, f10, f11⟩ := sqf12 hb
 have y1 := (HC.out.keep hE1 id).cell 1
 simp at y1
 clear hX2 hk hb2 hb g1 g2 g3 hE1 HB HC HQ HX a0 a1 a2 a3 a4 a5 a6 a7 a8 a9 a10 a11
 go_wp2_with fail
 rw [HX2.out]
 clear y1 b0 f0 b1 f1 b2 f2 b3 f3 b4 f4 b5 f5 b6 f6 b7 f7 b8 f8 b9 f9 b10 f10 b11 f11
 refine (begins_ok X2 _ _ _ _ _ _ (own_st HG1.out) HQ2.out).mono ?_
 intro e X3 hbeg
 obtain ⟨rfl, hE3⟩ := hbeg.yes HN.out
 have HB3 := hid (HB2.out.keep hE3 id)
 have HG1' := hid (HG1.out.ext ESt.ok hE3)
 have HG2' := hid (HG2.out.ext EVal.ok hE3)
 have HG3' := hid (HG3.out.ext EField.ok hE3)
 have HE3 := hid (HE2.out.ext hE3)
 have hE3' := hE3
 clear hbeg hE3 HB2 HG1 HG2 HG3 HQ2 HE2 HX2
 have HC3 := hid (HC2.out.keep hE3' id)
 obtain ⟨b0, b1, b2, b3, b4, b5, b6, b7, b8, b9, b10, b11⟩ := sq12 HB3.out
 have hkl := HK.out
 have hklX : (y.path.length : Int) < x.path.length := by omega
 have hc3 := HC3.out
 have z1 := hc3.cell 1
 have z0 := hc3.cell 0
 have z2 := hc3.cell 2
 have z3 := hc3.cell 3
 have z4 := hc3.cell 4
 have z5 := hc3.cell 5
 have z6 := hc3.cell 6
 have z7 := hc3.cell 7
 have z8 := hc3.cell 8
 have z9 := hc3.cell 9
 have z10 := hc3.cell 10
 have z11 := hc3.cell 11
 simp at z0 z1 z2 z3 z4 z5 z6 z7 z8 z9 z10 z11
 clear hc3
 have hng0 : w.heap.size ≠ g := by have := HBG.out; have := HSZ.out; omega
 have hng1 : w.heap.size + 1 ≠ g := by have := HBG.out; have := HSZ.out; omega
 have HNG := hid (And.intro hng0 hng1)
 have HTH := hid (fun w' pv h => (through_ok w' g (k * 3) s y pv (.int .u8 (y.v.kind.toNat : Int)) (.int .i64 y.v.n) (.string y.v.s) (.slice Bl y.v.l.length dl) (.slice Bo y.v.o.length do_) h HSI.out HYI.out HYJ.out))
 obtain ⟨b, hb⟩ : ∃ b, (thrL s y).2 = b := ⟨_, rfl⟩
 have HBB := hid hb
 have HKL := hid (show k < x.path.length from by rw [← HKK.out]; exact HK.out)
 have HSE := hid (show x.path[k]'HKL.out = s from by have := HS.out; rw [List.getElem?_eq_getElem HKL.out] at this; exact Option.some.inj this)
 have hkn := HKK.out
 rw [hkn] at hklX
 clear hb hkl hk hsz
 go_wp2_with fail
 refine M.wp_region_once [0] [1, 2, 3, 4, 5] [6] (M.specOf [(5, fun v' w' => v' = .bool b ∧ Own ESt w' W.heap.size TSTEP (fun _ => False) (.slice (some ⟨g, 0, none⟩) x.path.length cp2) (x.path.set k { s with i := (thrL s y).1 }))])
  (fun w' => Keep (· = g) X3 w') (fun i => Keep (M.effOf [(5, fun k => k = g)] i)) (M.onceOf 5 fun w' => Own ESt w' W.heap.size TSTEP (fun _ => False) (.slice (some ⟨g, 0, none⟩) x.path.length cp2) x.path)
  ?_ (M.stableC_keep (fun i k h => by obtain ⟨x, hx, _, h⟩ := h; rcases List.mem_cons.1 hx with rfl | hx; exact h; cases hx) _) ?_ (by kernel_rfl) (by kernel_rfl) (Keep.drew (Keep.refl _ _)) ?_ ?_
 ·have hn : ∀ j, j ≠ 5 → ∀ k, ¬ M.effOf [(5, fun k => k = g)] j k := fun j hj k h => by
   obtain ⟨x, hx, h1, _⟩ := h
   rcases List.mem_cons.1 hx with rfl | hx
   ·exact hj h1.symm
   ·cases hx
  exact M.stable_cons (fun j hj v' u u' h he => ⟨h.1, h.2.keep ESt.ok he (fun k _ => hn j hj k) fun _ _ => hn j hj _⟩) M.stable_nil
 ·have hn : ∀ j, j ≠ 5 → ∀ k, ¬ M.effOf [(5, fun k => k = g)] j k := fun j hj k h => by
   obtain ⟨x, hx, h1, _⟩ := h
   rcases List.mem_cons.1 hx with rfl | hx
   ·exact hj h1.symm
   ·cases hx
  exact M.stableU_once fun j hj u u' h he => h.keep ESt.ok he (fun k _ => hn j hj k) fun _ _ => hn j hj _
 ·intro k _ e
  exact HG1'.out.ext ESt.ok (Keep.drew (Keep.refl _ _))
 iterate 1
  (try simp only [Act.put, sqa, sqb, sqc])
  refine M.pure_run rfl rfl ?_
  apply Exists.intro
  refine ⟨fun w' => ?_, ?_⟩
  ·go_simp
   rfl
 refine M.pure_nil ?_
 iterate 4
  (try simp only [Act.put, sqa, sqb, sqc])
  refine M.u_run rfl rfl rfl ?_
  apply Exists.intro
  refine ⟨fun w' hC hU hK => ?_, ?_⟩
  ·have b1 := (hC.cell (lt_of_cell b1) HNG.out.1).trans b1
   have z0 := (hC.cell (lt_of_cell z0) HNG.out.2).trans z0
   have z1 := (hC.cell (lt_of_cell z1) HNG.out.2).trans z1
   have z2 := (hC.cell (lt_of_cell z2) HNG.out.2).trans z2
   have z3 := (hC.cell (lt_of_cell z3) HNG.out.2).trans z3
   have z4 := (hC.cell (lt_of_cell z4) HNG.out.2).trans z4
   have z5 := (hC.cell (lt_of_cell z5) HNG.out.2).trans z5
   have z6 := (hC.cell (lt_of_cell z6) HNG.out.2).trans z6
   have z7 := (hC.cell (lt_of_cell z7) HNG.out.2).trans z7
   have z8 := (hC.cell (lt_of_cell z8) HNG.out.2).trans z8
   have z9 := (hC.cell (lt_of_cell z9) HNG.out.2).trans z9
   have z10 := (hC.cell (lt_of_cell z10) HNG.out.2).trans z10
   have z11 := (hC.cell (lt_of_cell z11) HNG.out.2).trans z11
   go_simp
   rfl
 (try simp only [Act.put, sqa, sqb, sqc])
 refine M.u_eff rfl rfl rfl (fun w' hC hU hK => ?_) (fun v5 hv5 => ?_)
 ·unfold M.growAt
  go_simp
  have hU' : Own ESt w' W.heap.size TSTEP (fun _ => False) (.slice (some ⟨g, 0, none⟩) x.path.length cp2) x.path := hU rfl
  have hst := stp_at hU' HKL.out HSE.out
  have hcall := HTH.out w' (.slice Bp k dp) hst
  refine M.grow_call (hcall.mono ?_)
  intro e w'' h
  obtain ⟨rfl, h1, h2⟩ := thr_own hU' HKL.out HSE.out h
  exact ⟨_, rfl, h1.mono (fun k _ hk => ⟨_, List.mem_cons_self, rfl, hk⟩), by rw [HBB.out], h2⟩
 obtain ⟨_, _, rfl, _⟩ := hv5
 refine M.u_nil fun w4 hC hK => ?_
 obtain ⟨_, hO4⟩ : _ ∧ Own ESt w4 W.heap.size TSTEP (fun _ => False) (.slice (some ⟨g, 0, none⟩) x.path.length cp2) (x.path.set k { s with i := (thrL s y).1 }) := hK (5, _) List.mem_cons_self
 change wpList _ _ _ (_ :: []) _ _
 have hC' : Keep (· = g) X3 w4 := hC
 have HC' := hid hC'
 have HO4 := hid hO4
 have hb4 := HB3.out.keep hC' HNG.out.1
 have HB4 := hid hb4
 have HG2'' := hid (HG2'.out.keep EVal.ok hC' fun k h e => by have := h.2; subst e; simp [Value.ownBlock] at this)
 have HG3'' := hid (HG3'.out.keep EField.ok hC' fun k h e => by have := h.2; subst e; simp [Value.ownBlock] at this)
 have HE4 := hid (HE3.out.trans hC' fun k hk e => by have := HBG.out; have := HSZ.out; omega)
 clear hO4 hC hK hC' hb4 b0 b1 b2 b3 b4 b5 b6 b7 b8 b9 b10 b11 z0 z1 z2 z3 z4 z5 z6 z7 z8 z9 z10 z11 HG2' HG3' HG1' HE3 HC' HC3 HB3 HTH
 (try simp only [Act.put, sqa, sqb, sqc])
 go_wp2_with fail
 refine NoPanic.normal ?_
 cases b with
 | false =>
  go_wp2
  go_ret
  exact .inl ⟨HBB.out, rfl, HE4.out⟩
 | true =>
  obtain ⟨b0, b1, b2, b3, b4, b5, b6, b7, b8, b9, b10, b11⟩ := sq12 HB4.out
  have hE5 : Ext w4 (w4.alloc (.cells (cpCells x (.slice (some ⟨g, 0, none⟩) x.path.length cp2) (.slice Al2 x.v.l.length cl2) (.slice Ao2 x.v.o.length co2)) TCMP)) := (Keep.refl _ _).alloc _
  have hbn : Blk (w4.alloc (.cells (cpCells x (.slice (some ⟨g, 0, none⟩) x.path.length cp2) (.slice Al2 x.v.l.length cl2) (.slice Ao2 x.v.o.length co2)) TCMP)) w4.heap.size TCMP (cpCells x (.slice (some ⟨g, 0, none⟩) x.path.length cp2) (.slice Al2 x.v.l.length cl2) (.slice Ao2 x.v.o.length co2)) := Blk.new _ _ _
  have HF := hid (And.intro hbn hE5)
  clear hbn hE5
  go_wp2
  go_ret
  exact .inr ⟨HBB.out, _, _, _, _, rfl, HF.out.1, (own_st (HO4.out.ext ESt.ok HF.out.2)).more ESt.ok fun k _ h => by have := HSZ.out; omega, (HG2''.out.ext EVal.ok HF.out.2).more EVal.ok fun k _ h => by have := HSZ.out; have := h.1; omega, (HG3''.out.ext EField.ok HF.out.2).more EField.ok fun k _ h => by have := HSZ.out; have := h.1; omega, HE4.out.ext HF.out.2⟩
theorem fields_ok (w : World) (k1 k2 : UInt8) (p1 p2 p3 p4 p5 p6 p7 p8 p9 p10 p11 q1 q2 q3 q4 q5 q6 q7 q8 q9 q10 q11 : Value) (left : Bool) :
  Calls Tryd.prog 59 #[.agg #[U8 k1, p1, p2, p3, p4, p5, p6, p7, p8, p9, p10, p11], .agg #[U8 k2, q1, q2, q3, q4, q5, q6, q7, q8, q9, q10, q11], .bool left] w fun e w' => e = .returned (.bool (k1.toNat == 2 && (left || k2.toNat == 3))) ∧ Ext w w' := by
 have HE := hid (show Ext w ((w.alloc (.cells #[U8 k1, p1, p2, p3, p4, p5, p6, p7, p8, p9, p10, p11] TCMP)).alloc (.cells #[U8 k2, q1, q2, q3, q4, q5, q6, q7, q8, q9, q10, q11] TCMP)) from ((Keep.refl _ _).alloc _).alloc _)
 obtain ⟨n, hn⟩ : ∃ n, k1.toNat = n := ⟨_, rfl⟩
 obtain ⟨m, hm⟩ : ∃ m, k2.toNat = m := ⟨_, rfl⟩
 rw [show U8 k1 = .int .u8 (n : Int) from by rw [← hn], show U8 k2 = .int .u8 (m : Int) from by rw [← hm]] at *
 rw [hn, hm]
 clear hn hm
 by_cases h1 : n = 2
 ·subst h1
  cases left with
  | true =>
   go_enter Tryd.func59, Tryd.ntmps59
   go_wp2
   go_ret
   exact ⟨rfl, HE.out⟩
  | false =>
   by_cases h2 : m = 3
   ·subst h2
    go_enter Tryd.func59, Tryd.ntmps59
    go_wp2
    go_ret
    exact ⟨rfl, HE.out⟩
   ·have g2 : ((m : Int) == 3) = false := by simp; omega
    have HR := hid (show (m == 3) = false from by simp; omega)
    clear h2
    go_enter Tryd.func59, Tryd.ntmps59
    go_wp2
    go_ret
    exact ⟨by rw [HR.out]; rfl, HE.out⟩
 ·have g1 : ((n : Int) == 2) = false := by simp; omega
  have HR := hid (show (n == 2) = false from by simp; omega)
  clear h1
  go_enter Tryd.func59, Tryd.ntmps59
  go_wp2
  go_ret
  exact ⟨by rw [HR.out]; rfl, HE.out⟩
theorem own_nil (w : World) : Calls Tryd.prog 28 #[.slice none 0 0] w fun e w' => e = .returned (.slice none 0 0) ∧ w' = w := by
 go_enter Tryd.func28, Tryd.ntmps28
 go_wp2_with fail
 refine wp_loop_once ?_
 go_wp2
 go_ret
 exact ⟨rfl, rfl⟩
theorem beside_put (w : World) (key : ByteArray) (p q a3 a4 a5 a6 a7 a8 a9 a10 a11 b3 b4 b5 b6 b7 b8 b9 b10 b11 : Value) :
  Calls Tryd.prog 29 #[.agg #[U8 2, p, .string key, a3, a4, a5, a6, a7, a8, a9, a10, a11], .agg #[U8 2, q, .string key, b3, b4, b5, b6, b7, b8, b9, b10, b11], .bool false] w fun e w' => e = .returned (.slice none 0 0) ∧ Ext w w' := by
 obtain ⟨W, hW⟩ : ∃ W, ((w.alloc (.cells #[U8 2, p, .string key, a3, a4, a5, a6, a7, a8, a9, a10, a11] TCMP)).alloc (.cells #[U8 2, q, .string key, b3, b4, b5, b6, b7, b8, b9, b10, b11] TCMP)) = W := ⟨_, rfl⟩
 have hE : Ext w W := by rw [← hW]; exact ((Keep.refl _ _).alloc _).alloc _
 have hsz : W.heap.size = w.heap.size + 2 := by rw [← hW]; simp
 have hb : Blk W w.heap.size TCMP #[U8 2, p, .string key, a3, a4, a5, a6, a7, a8, a9, a10, a11] := by rw [← hW]; exact (Blk.new _ _ _).alloc _
 have hc : Blk W (w.heap.size + 1) TCMP #[U8 2, q, .string key, b3, b4, b5, b6, b7, b8, b9, b10, b11] := by
  have := Blk.new (w.alloc (.cells #[U8 2, p, .string key, a3, a4, a5, a6, a7, a8, a9, a10, a11] TCMP)) TCMP #[U8 2, q, .string key, b3, b4, b5, b6, b7, b8, b9, b10, b11]
  rw [World.size_alloc, hW] at this
  exact this
 obtain ⟨x0, x1, x2, x3, x4, x5, x6, x7, x8, x9, x10, x11⟩ := sq12 hb
 obtain ⟨y0, y1, y2, y3, y4, y5, y6, y7, y8, y9, y10, y11⟩ := sq12 hc
 have HB := hid hb
 have HC := hid hc
 have HE := hid hE
 clear hb hc hE hsz
 go_enter Tryd.func29, Tryd.ntmps29
 go_wp2_with fail
 refine (family_ok W 2 _ _ _ _ _ _ _ _ _ _ _).mono ?_
 rintro e W2 ⟨rfl, hE2⟩
 rw [show (famN (2 : UInt8).toNat : Int) = 5 from rfl]
 have hb2 := HB.out.keep hE2 id
 have hc2 := HC.out.keep hE2 id
 clear x0 y0 x1 y1 x2 y2 x3 y3 x4 y4 x5 y5 x6 y6 x7 y7 x8 y8 x9 y9 x10 y10 x11 y11
 obtain ⟨x0, x1, x2, x3, x4, x5, x6, x7, x8, x9, x10, x11⟩ := sq12 hb2
 obtain ⟨y0, y1, y2, y3, y4, y5, y6, y7, y8, y9, y10, y11⟩ := sq12 hc2
 have HB2 := hid hb2
 have HC2 := hid hc2
 have HE2 := hid (HE.out.ext hE2)
 clear hb2 hc2 hE2
 go_wp2_with fail
 refine (family_ok W2 2 _ _ _ _ _ _ _ _ _ _ _).mono ?_
 rintro e W3 ⟨rfl, hE3⟩
 rw [show (famN (2 : UInt8).toNat : Int) = 5 from rfl]
 have hb3 := HB2.out.keep hE3 id
 have hc3 := HC2.out.keep hE3 id
 clear x0 y0 x1 y1 x2 y2 x3 y3 x4 y4 x5 y5 x6 y6 x7 y7 x8 y8 x9 y9 x10 y10 x11 y11
 obtain ⟨x0, x1, x2, x3, x4, x5, x6, x7, x8, x9, x10, x11⟩ := sq12 hb3
 obtain ⟨y0, y1, y2, y3, y4, y5, y6, y7, y8, y9, y10, y11⟩ := sq12 hc3
 have HB3 := hid hb3
 have HC3 := hid hc3
 have HE3 := hid (HE2.out.ext hE3)
 clear hb3 hc3 hE3
 go_wp2_with fail
 refine (fields_ok W3 2 2 _ _ _ _ _ _ _ _ _ _ _ _ _ _ _ _ _ _ _ _ _ _ false).mono ?_
 rintro e W4 ⟨rfl, hE4⟩
 rw [show ((2 : UInt8).toNat == 2 && (false || (2 : UInt8).toNat == 3)) = false from rfl]
 go_wp2
 go_ret
 exact ⟨rfl, HE3.out.ext hE4⟩
theorem turn_put (w : World) (S S2 : BS) (u t : Value) (x y : Cp) (hx : CAt w S u x) (hy : CAt w S2 t y) (hp : x.path.length ≤ 1000) (hv : x.v.size ≤ 1000000) (hn : y.path <+: x.path) (hk : ¬ y.path.length < x.path.length) (hx2 : x.kind = 2) (hy2 : y.kind = 2) (hkey : y.key = x.key) :
  Calls Tryd.prog 13 #[u, t, .bool false] w (fun e w' => e = .returned (.slice none 0 0) ∧ Ext w w') := by
 obtain ⟨pv, lv, ov, rfl, h1, h2, h3⟩ := hx.cut
 obtain ⟨Ap, cp, rfl, _⟩ := h1.shape
 obtain ⟨Al, cl, rfl, _⟩ := h2.shape
 obtain ⟨Ao, co, rfl, _⟩ := h3.shape
 obtain ⟨qv, mv, nv, rfl, k1, k2, k3⟩ := hy.cut
 obtain ⟨Bp, dp, rfl, _⟩ := k1.shape
 obtain ⟨Bl, dl, rfl, _⟩ := k2.shape
 obtain ⟨Bo, do_, rfl, _⟩ := k3.shape
 obtain ⟨W, hW⟩ : ∃ W, (w.alloc (.cells (cpCells x (.slice Ap x.path.length cp) (.slice Al x.v.l.length cl) (.slice Ao x.v.o.length co)) TCMP)).alloc (.cells (cpCells y (.slice Bp y.path.length dp) (.slice Bl y.v.l.length dl) (.slice Bo y.v.o.length do_)) TCMP) = W := ⟨_, rfl⟩
 have hE : Ext w W := by rw [← hW]; exact ((Keep.refl _ _).alloc _).alloc _
 have hsz : W.heap.size = w.heap.size + 2 := by rw [← hW]; simp
 have hb : Blk W w.heap.size TCMP (cpCells x (.slice Ap x.path.length cp) (.slice Al x.v.l.length cl) (.slice Ao x.v.o.length co)) := by rw [← hW]; exact (Blk.new _ _ _).alloc _
 have hc : Blk W (w.heap.size + 1) TCMP (cpCells y (.slice Bp y.path.length dp) (.slice Bl y.v.l.length dl) (.slice Bo y.v.o.length do_)) := by
  have := Blk.new (w.alloc (.cells (cpCells x (.slice Ap x.path.length cp) (.slice Al x.v.l.length cl) (.slice Ao x.v.o.length co)) TCMP)) TCMP (cpCells y (.slice Bp y.path.length dp) (.slice Bl y.v.l.length dl) (.slice Bo y.v.o.length do_))
  rw [World.size_alloc, hW] at this
  exact this
 have HX := hid (show CAt W (fun k => k < w.heap.size) (.agg (cpCells x (.slice Ap x.path.length cp) (.slice Al x.v.l.length cl) (.slice Ao x.v.o.length co))) x from (CAt.ext ⟨_, _, _, rfl, h1, h2, h3⟩ hE).more fun k _ h => h.2)
 have HQ := hid ((k1.more (S' := fun k => k < w.heap.size) ESt.ok fun k _ h => h.2).ext ESt.ok hE)
 have HB := hid hb
 have HC := hid hc
 have HE := hid hE
 have HN := hid hn
 obtain ⟨a0, a1, a2, a3, a4, a5, a6, a7, a8, a9, a10, a11⟩ := sq12 hb
 have HK := hid hk
 have HX2K := hid hx2
 have HY2K := hid hy2
 have HKEY := hid hkey
 clear h1 h2 h3 k1 k2 k3 hk hx2 hy2 hkey hE hb hc hx hy hn
 go_enter Tryd.func13, Tryd.ntmps13
 go_wp2_with fail
 refine (comp_copy W _ _ x HX.out hp hv).mono ?_
 rintro e X1 ⟨u', rfl, hu', hE1⟩
 obtain ⟨pv2, lv2, ov2, rfl, g1, g2, g3⟩ := hu'
 obtain ⟨Ap2, cp2, rfl, _⟩ := g1.shape
 obtain ⟨Al2, cl2, rfl, _⟩ := g2.shape
 obtain ⟨Ao2, co2, rfl, _⟩ := g3.shape
 have hs1 := hE1.size
 have hb := HB.out.keep hE1 id
 obtain ⟨X2, hX2⟩ : ∃ X2, ((((((((((((X1.setCell ⟨w.heap.size, 0, none⟩ (.int .u8 (x.kind.toNat : Int))).setCell ⟨w.heap.size, 1, none⟩ (.slice Ap2 x.path.length cp2)).setCell ⟨w.heap.size, 2, none⟩ (.string x.key)).setCell ⟨w.heap.size, 3, none⟩ (.int .i64 x.i)).setCell ⟨w.heap.size, 4, none⟩ (.int .i64 x.j)).setCell ⟨w.heap.size, 5, none⟩ (.int .i64 x.n)).setCell ⟨w.heap.size, 6, none⟩ (.int .u8 (x.v.kind.toNat : Int))).setCell ⟨w.heap.size, 7, none⟩ (.int .i64 x.v.n)).setCell ⟨w.heap.size, 8, none⟩ (.string x.v.s)).setCell ⟨w.heap.size, 9, none⟩ (.slice Al2 x.v.l.length cl2)).setCell ⟨w.heap.size, 10, none⟩ (.slice Ao2 x.v.o.length co2)).setCell ⟨w.heap.size, 11, none⟩ (.string x.s)) = X2 := ⟨_, rfl⟩
 have hk : Keep (· = w.heap.size) X1 X2 := by rw [← hX2]; exact ((((((((((((Keep.refl (· = w.heap.size) X1).set1 0 _).set1 1 _).set1 2 _).set1 3 _).set1 4 _).set1 5 _).set1 6 _).set1 7 _).set1 8 _).set1 9 _).set1 10 _).set1 11 _
 have hb2 : Blk X2 w.heap.size TCMP (cpCells x (.slice Ap2 x.path.length cp2) (.slice Al2 x.v.l.length cl2) (.slice Ao2 x.v.o.length co2)) := by rw [← hX2]; exact set12f hb rfl (.int .u8 (x.kind.toNat : Int)) (.slice Ap2 x.path.length cp2) (.string x.key) (.int .i64 x.i) (.int .i64 x.j) (.int .i64 x.n) (.int .u8 (x.v.kind.toNat : Int)) (.int .i64 x.v.n) (.string x.v.s) (.slice Al2 x.v.l.length cl2) (.slice Ao2 x.v.o.length co2) (.string x.s)
 have HG1 := hid (g1.keep ESt.ok hk fun k h e => by omega)
 have HG2 := hid (g2.keep EVal.ok hk fun k h e => by omega)
 have HG3 := hid (g3.keep EField.ok hk fun k h e => by omega)
 have HB2 := hid hb2
 have HC2 := hid ((HC.out.keep hE1 id).keep hk (by omega))
 have HQ2 := hid ((HQ.out.ext ESt.ok hE1).keep ESt.ok hk fun k h e => by omega)
 have HE2 := hid ((HE.out.ext hE1).trans hk fun k hk e => by omega)
 have HX2 := hid hX2
 obtain ⟨b0, b1, b2, b3, b4, b5, b6, b7, b8, b9, b10, b11⟩ := sq12 hb
 obtain ⟨f0, f1, f2, f3, f4, f5, f6, f7, f8, f9, f10, f11⟩ := sqf12 hb
 have y1 := (HC.out.keep hE1 id).cell 1
 simp at y1
 clear hX2 hk hb2 hb g1 g2 g3 hE1 HB HC HQ HX a0 a1 a2 a3 a4 a5 a6 a7 a8 a9 a10 a11
 go_wp2_with fail
 rw [HX2.out]
 clear y1 b0 f0 b1 f1 b2 f2 b3 f3 b4 f4 b5 f5 b6 f6 b7 f7 b8 f8 b9 f9 b10 f10 b11 f11
 refine (begins_ok X2 _ _ _ _ _ _ HG1.out HQ2.out).mono ?_
 intro e X3 hbeg
 obtain ⟨rfl, hE3⟩ := hbeg.yes HN.out
 have HB3 := hid (HB2.out.keep hE3 id)
 have HG1' := hid (HG1.out.ext ESt.ok hE3)
 have HG2' := hid (HG2.out.ext EVal.ok hE3)
 have HG3' := hid (HG3.out.ext EField.ok hE3)
 have HE3 := hid (HE2.out.ext hE3)
 have hE3' := hE3
 clear hbeg hE3 HB2 HG1 HG2 HG3 HQ2 HE2 HX2
 have HC3 := hid (HC2.out.keep hE3' id)
 obtain ⟨b0, b1, b2, b3, b4, b5, b6, b7, b8, b9, b10, b11⟩ := sq12 HB3.out
 have hklX : ¬ ((y.path.length : Int) < x.path.length) := by have := HK.out; omega
 have hc3 := HC3.out
 obtain ⟨z0, z1, z2, z3, z4, z5, z6, z7, z8, z9, z10, z11⟩ := sq12 hc3
 rw [HY2K.out] at z0
 rw [HX2K.out] at b0
 rw [HKEY.out] at z2
 clear hc3
 go_wp2_with fail
 refine (beside_put X3 x.key _ _ _ _ _ _ _ _ _ _ _ _ _ _ _ _ _ _ _ _).mono ?_
 rintro e X4 ⟨rfl, hE4⟩
 have HE4 := hid (HE3.out.ext hE4)
 clear hE4 b0 b1 b2 b3 b4 b5 b6 b7 b8 b9 b10 b11 z0 z1 z2 z3 z4 z5 z6 z7 z8 z9 z10 z11
 go_wp2_with fail
 refine (own_nil X4).mono ?_
 rintro e X5 ⟨rfl, rfl⟩
 go_wp2
 go_ret
 exact ⟨rfl, HE4.out⟩
abbrev s07 (i : Int) : St := ⟨true, i, ⟨#[]⟩⟩
abbrev v07 : V := .mk 0 0 ⟨#[]⟩ [] []
abbrev x07 (p : List St) : Cp := ⟨1, p, ⟨#[]⟩, 0, 0, 1, v07, ⟨#[]⟩⟩
abbrev y07 : Cp := ⟨4, [], ⟨#[]⟩, 0, 0, 0, v07, ⟨#[]⟩⟩
abbrev z07 : Cp := ⟨2, [], ⟨#[97]⟩, 0, 0, 0, v07, ⟨#[]⟩⟩
theorem cat07 {w : World} {S : BS} {c : Cp} {pv : Value} (h : Sl ESt w S pv c.path) (hv : c.v = v07) : CAt w S (.agg (cpCells c pv (.slice none 0 0) (.slice none 0 0))) c :=
 ⟨_, _, _, rfl, h, by rw [hv]; exact Sl.nil _ _, by rw [hv]; exact Sl.nil _ _⟩
theorem bel07 {w w' : World} {p : List St} {e : Ending} (h : BelIs w (x07 [s07 1]) y07 0 (s07 1) e w') : TurnOne w (x07 [s07 2]) e w' := by
 rcases h with ⟨h, _⟩ | ⟨_, h⟩
 ·have : (thrL (s07 1) y07).2 = true := by decide
  rw [this] at h
  cases h
 ·have : (thrL (s07 1) y07).1 = 2 := by decide
  rw [this] at h
  exact h
theorem known07_ok (w : World) : Calls Tryd.prog 9 #[] w fun e w' => e = .returned (.bool true) ∧ Ext w w' := by
 obtain ⟨W, hW⟩ : ∃ W, w.alloc (.cells #[.bool true, .int .i64 1, .string ⟨#[]⟩] TSTEP) = W := ⟨_, rfl⟩
 have hE : Ext w W := by rw [← hW]; exact (Keep.refl _ _).alloc _
 have hb : Blk W w.heap.size TSTEP #[.bool true, .int .i64 1, .string ⟨#[]⟩] := by rw [← hW]; exact Blk.new _ _ _
 have hs : Sl ESt W (fun _ => True) (.slice (some ⟨w.heap.size, 0, none⟩) 1 1) [s07 1] := by
  rw [← hW]
  exact ⟨[.bool true, .int .i64 1, .string ⟨#[]⟩], (RowS.new (n := 1) (sz := 3) rfl (by decide)).more fun _ _ _ => trivial, Cells.single rfl⟩
 have HE := hid hE
 have HB := hid hb
 have HS := hid hs
 clear hE hb hs
 go_enter Tryd.func9, Tryd.ntmps9
 go_wp2_with fail
 refine (turn_below W _ (fun _ => True) _ _ (x07 [s07 1]) y07 0 (s07 1) true (cat07 HS.out rfl) (cat07 (Sl.nil _ _) rfl) (by decide) (by decide) (List.nil_prefix) (by decide) rfl rfl ⟨by decide, by decide⟩ ⟨by decide, by decide⟩ ⟨by decide, by decide⟩).mono ?_
 intro e W2 h
 obtain ⟨g, pv, lv, ov, rfl, h1, h2, h3, h4, hE2⟩ := bel07 (p := []) h
 obtain ⟨A, c, rfl, _⟩ := h2.shape
 obtain ⟨g2, off, c0, rfl, _, hlt, hrd, hc0⟩ := h2.at_ ESt.ok (k := 0) (by decide)
 have hrd : c0 = [.bool true, .int .i64 2, .string ⟨#[]⟩] := hrd
 subst hrd
 have q2 : W2.cell? ⟨g2, off + 1, none⟩ = some (.int .i64 2) := by have := hc0 1 _ rfl; simpa using this
 have HB2 := hid (HB.out.keep hE2 id)
 have HQ2 := hid q2
 have HP2 := hid h1
 have HE2 := hid (HE.out.ext hE2)
 clear h h1 h2 h3 h4 hE2 hlt hc0 q2 HB HS
 go_wp2_with fail
 refine (turn_put W2 (fun _ => True) (fun _ => True) _ _ z07 z07 (cat07 (Sl.nil _ _) rfl) (cat07 (Sl.nil _ _) rfl) (by decide) (by decide) (List.nil_prefix) (by decide) rfl rfl rfl).mono ?_
 rintro e W3 ⟨rfl, hE3⟩
 have b1 := (HB2.out.keep hE3 id).cell 1
 have q2 := (hE3.cell (lt_of_cell HQ2.out) id).trans HQ2.out
 have p1 := (HP2.out.keep hE3 id).cell 1
 simp at b1 p1
 have HE3 := hid (HE2.out.ext hE3)
 clear hE3
 go_wp2
 go_ret
 exact ⟨rfl, HE3.out⟩
end Go.Proofs.YtioplgfopillnaaDoor
