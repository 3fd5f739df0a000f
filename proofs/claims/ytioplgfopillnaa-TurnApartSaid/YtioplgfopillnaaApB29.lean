/- TurnJ: laid together. -/
import Derived.Test.YtioplgfopillnaaApB28
import Derived.Test.YtioplgfopillnaaApB19
/- comp.Copy, its path's row in sight. -/
set_option linter.unusedSimpArgs false
set_option linter.unusedVariables false
namespace Go.Proofs.Ytioplgfopillnaa
open Go.RowKit
set_option linter.unusedVariables false

theorem own_stF {w : World} {base : Nat} {T : TypeId} {S S' : BS} {v : Value} {xs : List St} (h : Own ESt w base T S v xs) : Own ESt w base T S' v xs := by
  rcases h with h | ⟨g', cap, cur, e, h1, h2, h3, h4, h5, h6⟩
  · exact .inl h
  · exact .inr ⟨g', cap, cur, e, h1, h2, h3, h4, h5, cells_st h6⟩
def PathP (b : Nat) (p : List St) (n m : Nat) (v : Value) (w : World) : Prop := b ≤ n ∧ ∃ A c, v = .slice A p.length c ∧ Own ESt w n TSTEP (fun _ => False) v p ∧ ∀ g, v.ownBlock = some g → g < m
theorem PathP.ext {b n m : Nat} {p : List St} {v : Value} {w w' : World} (h : PathP b p n m v w) (he : Ext w w') : PathP b p n m v w' := by
  obtain ⟨h0, A, c, e, h1, h2⟩ := h; exact ⟨h0, A, c, e, h1.ext ESt.ok he, h2⟩
def ValP (b : Nat) (x : V) (n m : Nat) (v : Value) (w : World) : Prop := b ≤ n ∧ VIs w (fun k => n ≤ k ∧ k < m) v x
theorem ValP.ext {b n m : Nat} {x : V} {v : Value} {w w' : World} (h : ValP b x n m v w) (he : Ext w w') : ValP b x n m v w' := ⟨h.1, h.2.ext he⟩
def CopyO (w : World) (c : Cp) (e : Ending) (w' : World) : Prop := ∃ pv lv ov, e = .returned (.agg (cpCells c pv lv ov)) ∧ Own ESt w' w.heap.size TSTEP (fun _ => False) pv c.path ∧ Sl EVal w' (fun k => w.heap.size ≤ k ∧ pv.ownBlock ≠ some k) lv c.v.l ∧ Sl EField w' (fun k => w.heap.size ≤ k ∧ pv.ownBlock ≠ some k) ov c.v.o ∧ Ext w w'
set_option maxRecDepth 20000 in
set_option maxHeartbeats 3200000 in
theorem comp_copyO (w : World) (S : BS) (u : Value) (c : Cp) (h : CAt w S u c) (hp : c.path.length ≤ 1000) (hv : c.v.size ≤ 1000000) :
    Calls Try.prog 18 #[u] w fun e w' => CopyO w c e w' := by
  obtain ⟨pv, lv, ov, rfl, h1, h2, h3⟩ := h.cut
  obtain ⟨Ap, cp, rfl, hpl, hpm⟩ := h1.shape
  obtain ⟨Al, cl, rfl, hll, hlm⟩ := h2.shape
  obtain ⟨Ao, co, rfl, hol, hom⟩ := h3.shape
  obtain ⟨W, hW⟩ : ∃ W, (w.alloc (.cells (cpCells c (.slice Ap c.path.length cp) (.slice Al c.v.l.length cl) (.slice Ao c.v.o.length co)) TCMP)) = W := ⟨_, rfl⟩
  have hE : Ext w W := by rw [← hW]; exact (Keep.refl _ _).alloc _
  have hb : Blk W w.heap.size TCMP (cpCells c (.slice Ap c.path.length cp) (.slice Al c.v.l.length cl) (.slice Ao c.v.o.length co)) := by rw [← hW]; exact Blk.new _ _ _
  obtain ⟨W2, hW2⟩ : ∃ W2, W.alloc (.cells ZCMP TCMP) = W2 := ⟨_, rfl⟩
  have hE2 : Ext W W2 := by rw [← hW2]; exact (Keep.refl _ _).alloc _
  have hr : Blk W2 W.heap.size TCMP ZCMP := by rw [← hW2]; exact Blk.new _ _ _
  have hb2 := hb.keep hE2 id
  have p1 := hb2.cell 1
  have v0 := hb2.cell 6
  have v1 := hb2.cell 7
  have v2 := hb2.cell 8
  have v3 := hb2.cell 9
  have v4 := hb2.cell 10
  simp at p1 v0 v1 v2 v3 v4
  have hsz : W.heap.size = w.heap.size + 1 := by rw [← hW]; simp
  have hsz2 : W2.heap.size = W.heap.size + 1 := by rw [← hW2]; simp
  have H1 := hid ((h1.ext ESt.ok hE).ext ESt.ok hE2)
  have HV := hid (show VAt W2 (fun k => S k ∧ k < w.heap.size) (.agg #[U8 c.v.kind, .int .i64 c.v.n, .string c.v.s, .slice Al c.v.l.length cl, .slice Ao c.v.o.length co]) c.v from ⟨_, _, rfl, (h2.ext EVal.ok hE).ext EVal.ok hE2, (h3.ext EField.ok hE).ext EField.ok hE2⟩)
  have HB := hid hb2
  have HR := hid hr
  have HE := hid (hE.ext hE2)
  have HSZ := hid hsz
  have HSZ2 := hid hsz2
  rw [hsz] at hr
  clear h1 h2 h3 hb hE h hE2 hb2 hr hsz hsz2
  go_enter Try.func18, Try.ntmps18
  go_wp2_with fail
  refine H.wp_region_parts [] [0, 1, 2, 3, 4, 5, 6] [7, 8, 9] (H.specOf [(2, PathP W2.heap.size c.path), (5, ValP W2.heap.size c.v)]) (fun w' => Ext W2 w') (H.stable_cons (fun n m v w w' h he => h.ext he) (H.stable_cons (fun n m v w w' h he => h.ext he) H.stable_nil)) (H.stableC_ext _) (by kernel_rfl) (by kernel_rfl) (Keep.drew (Keep.refl _ _)) ?_
  refine H.pure_nil ?_
  iterate 2
    (try simp only [Act.put, List.setIfInBounds_toArray, List.set_cons_zero, List.set_cons_succ])
    refine H.growP_run rfl rfl rfl ?_
    apply Exists.intro
    refine ⟨fun w' hC hK => ?_, ?_⟩
    · have p1 := (hC.cell (lt_of_cell p1) id).trans p1
      go_simp
      rfl
  (try simp only [Act.put, List.setIfInBounds_toArray, List.set_cons_zero, List.set_cons_succ])
  refine H.growP_eff rfl rfl rfl (fun w' hC hK => ?_) (fun v2 nv2 mv2 hv2 => ?_)
  · unfold H.growAt
    go_simp
    refine H.grow_call ((clone_steps _ _ _ _ (H1.out.ext ESt.ok hC) (Nat.le_trans hp (by decide)) (fun k h => by have := hC.size; have := HSZ.out; have := HSZ2.out; have := h.2; omega)).mono ?_)
    rintro e w'' ⟨v', rfl, h1, h2⟩
    obtain ⟨A5, c5, rfl, _⟩ := h1.shape
    exact ⟨_, rfl, h2, hC.size, A5, c5, rfl, own_stF h1, fun g e => (h1.lt e).2⟩
  obtain ⟨_, _, _, A2, c2, rfl, _⟩ := hv2.head
  iterate 2
    (try simp only [Act.put, List.setIfInBounds_toArray, List.set_cons_zero, List.set_cons_succ])
    refine H.growP_run rfl rfl rfl ?_
    apply Exists.intro
    refine ⟨fun w' hC hK => ?_, ?_⟩
    · have v0 := (hC.cell (lt_of_cell v0) id).trans v0
      have v1 := (hC.cell (lt_of_cell v1) id).trans v1
      have v2 := (hC.cell (lt_of_cell v2) id).trans v2
      have v3 := (hC.cell (lt_of_cell v3) id).trans v3
      have v4 := (hC.cell (lt_of_cell v4) id).trans v4
      go_simp
      rfl
  (try simp only [Act.put, List.setIfInBounds_toArray, List.set_cons_zero, List.set_cons_succ])
  refine H.growP_eff rfl rfl rfl (fun w' hC hK => ?_) (fun v5 nv5 mv5 hv5 => ?_)
  · unfold H.growAt
    go_simp
    refine H.grow_call ((copy_valT _ c.v (Nat.le_refl _) hv _ _ _ (HV.out.ext hC)).mono ?_)
    rintro e w'' h
    obtain ⟨u', rfl, h1, h2⟩ := h.at_
    exact ⟨_, rfl, h2, hC.size, .of (h1.more fun k hk h => ⟨h, hk⟩)⟩
  obtain ⟨_, _, _, A5, m5, B5, k5, rfl, _⟩ := hv5.head
  iterate 1
    (try simp only [Act.put, List.setIfInBounds_toArray, List.set_cons_zero, List.set_cons_succ])
    refine H.growP_run rfl rfl rfl ?_
    apply Exists.intro
    refine ⟨fun w' hC hK => ?_, ?_⟩
    · go_simp
      rfl
  refine H.growP_nil fun wz hC hK => ?_
  have hC : Ext W2 wz := hC
  have HC := hid hC
  have HPV : Hid (PathP W2.heap.size c.path nv2 mv2 (.slice A2 c.path.length c2) wz) := hid (hK.1 (2, _) (List.mem_cons_of_mem _ List.mem_cons_self)).1
  have HVV : Hid (ValP W2.heap.size c.v nv5 mv5 (.agg #[U8 c.v.kind, .int .i64 c.v.n, .string c.v.s, .slice A5 c.v.l.length m5, .slice B5 c.v.o.length k5]) wz) := hid (hK.1 (5, _) List.mem_cons_self).1
  have HIN := hid (show mv2 ≤ nv5 ∨ mv5 ≤ nv2 from hK.2 (2, _) (List.mem_cons_of_mem _ List.mem_cons_self) (5, _) List.mem_cons_self (by simp))
  have hb := HB.out.keep hC id
  have hr := HR.out.keep hC id
  have HB1 := hid hb
  have HR1 := hid hr
  have hbz : w.heap.size < W.heap.size := by have := HSZ.out; omega
  have f1 := hb.frozen 1
  have f6 := hb.frozen 6
  have f7 := hb.frozen 7
  have f8 := hb.frozen 8
  have f9 := hb.frozen 9
  have f10 := hb.frozen 10
  have y1 := hb.cell 1
  have y6 := hb.cell 6
  have y7 := hb.cell 7
  have y8 := hb.cell 8
  have y9 := hb.cell 9
  have y10 := hb.cell 10
  simp at y1 y6 y7 y8 y9 y10
  obtain ⟨X1, hX1⟩ : ∃ X1, (((((wz.setCell ⟨w.heap.size, 1, none⟩ (.slice A2 c.path.length c2)).setCell ⟨w.heap.size, 6, none⟩ (.int .u8 (c.v.kind.toNat : Int))).setCell ⟨w.heap.size, 7, none⟩ (.int .i64 c.v.n)).setCell ⟨w.heap.size, 8, none⟩ (.string c.v.s)).setCell ⟨w.heap.size, 9, none⟩ (.slice A5 c.v.l.length m5)).setCell ⟨w.heap.size, 10, none⟩ (.slice B5 c.v.o.length k5) = X1 := ⟨_, rfl⟩
  have hk1 : Keep (· = w.heap.size) wz X1 := by
    rw [← hX1]
    exact ((((((Keep.refl (· = w.heap.size) wz).set1 1 _).set1 6 _).set1 7 _).set1 8 _).set1 9 _).set1 10 _
  have hx1 : Blk X1 w.heap.size TCMP (cpCells c (.slice A2 c.path.length c2) (.slice A5 c.v.l.length m5) (.slice B5 c.v.o.length k5)) := by
    rw [← hX1]
    exact (((((hb.set_ 1 (.slice A2 c.path.length c2)).set_ 6 (U8 c.v.kind)).set_ 7 (.int .i64 c.v.n)).set_ 8 (.string c.v.s)).set_ 9 (.slice A5 c.v.l.length m5)).set_ 10 (.slice B5 c.v.o.length k5)
  have hr1 : Blk X1 W.heap.size TCMP ZCMP := hr.keep hk1 (by omega)
  have HX1 := hid hx1
  have HRX := hid hr1
  have HK1 := hid hk1
  have HX := hid hX1
  clear hx1 hr1 hk1 hX1 hb hr hC hK
  change wpList _ _ _ (_ :: _ :: _ :: []) _ _
  (try simp only [Act.put, List.setIfInBounds_toArray, List.set_cons_zero, List.set_cons_succ])
  go_wp2_with fail
  refine NoPanic.normal ?_
  rw [HX.out]
  have a0 := HX1.out.cell 0
  have a1 := HX1.out.cell 1
  have a2 := HX1.out.cell 2
  have a3 := HX1.out.cell 3
  have a4 := HX1.out.cell 4
  have a5 := HX1.out.cell 5
  have a6 := HX1.out.cell 6
  have a7 := HX1.out.cell 7
  have a8 := HX1.out.cell 8
  have a9 := HX1.out.cell 9
  have a10 := HX1.out.cell 10
  have a11 := HX1.out.cell 11
  have z0 := HRX.out.cell 0
  have g0 := HRX.out.frozen 0
  have z1 := HRX.out.cell 1
  have g1 := HRX.out.frozen 1
  have z2 := HRX.out.cell 2
  have g2 := HRX.out.frozen 2
  have z3 := HRX.out.cell 3
  have g3 := HRX.out.frozen 3
  have z4 := HRX.out.cell 4
  have g4 := HRX.out.frozen 4
  have z5 := HRX.out.cell 5
  have g5 := HRX.out.frozen 5
  have z6 := HRX.out.cell 6
  have g6 := HRX.out.frozen 6
  have z7 := HRX.out.cell 7
  have g7 := HRX.out.frozen 7
  have z8 := HRX.out.cell 8
  have g8 := HRX.out.frozen 8
  have z9 := HRX.out.cell 9
  have g9 := HRX.out.frozen 9
  have z10 := HRX.out.cell 10
  have g10 := HRX.out.frozen 10
  have z11 := HRX.out.cell 11
  have g11 := HRX.out.frozen 11
  simp at a0 a1 a2 a3 a4 a5 a6 a7 a8 a9 a10 a11 z0 z1 z2 z3 z4 z5 z6 z7 z8 z9 z10 z11
  have hne : w.heap.size ≠ W.heap.size := by omega
  clear f1 f6 f7 f8 f9 f10 y1 y6 y7 y8 y9 y10 HX
  have HK2 := hid (show Keep (· = W.heap.size) X1 ((((((((((((X1.setCell ⟨W.heap.size, 0, none⟩ (.int .u8 (c.kind.toNat : Int))).setCell ⟨W.heap.size, 1, none⟩ (.slice A2 c.path.length c2)).setCell ⟨W.heap.size, 2, none⟩ (.string c.key)).setCell ⟨W.heap.size, 3, none⟩ (.int .i64 c.i)).setCell ⟨W.heap.size, 4, none⟩ (.int .i64 c.j)).setCell ⟨W.heap.size, 5, none⟩ (.int .i64 c.n)).setCell ⟨W.heap.size, 6, none⟩ (.int .u8 (c.v.kind.toNat : Int))).setCell ⟨W.heap.size, 7, none⟩ (.int .i64 c.v.n)).setCell ⟨W.heap.size, 8, none⟩ (.string c.v.s)).setCell ⟨W.heap.size, 9, none⟩ (.slice A5 c.v.l.length m5)).setCell ⟨W.heap.size, 10, none⟩ (.slice B5 c.v.o.length k5)).setCell ⟨W.heap.size, 11, none⟩ (.string c.s)) from (((((((((((((Keep.refl (· = W.heap.size) X1).set1 0 _).set1 1 _).set1 2 _).set1 3 _).set1 4 _).set1 5 _).set1 6 _).set1 7 _).set1 8 _).set1 9 _).set1 10 _).set1 11 _))
  go_wp2
  refine bodyPost_ret (v := .agg (cpCells c (.slice A2 c.path.length c2) (.slice A5 c.v.l.length m5) (.slice B5 c.v.o.length k5))) (by simp [results, Try.results18, go_sem, z0, z1, z2, z3, z4, z5, z6, z7, z8, z9, z10, z11]) rfl ?_
  have hs2 := HSZ2.out
  obtain ⟨hn2, A6, c6, e6, hp1, hlt⟩ := HPV.out
  injection e6 with e1 _ e2
  subst e1 e2
  obtain ⟨hn5, A7, n7, B7, k7, e7, hl1, ho1⟩ := HVV.out
  simp only [Value.agg.injEq] at e7
  simp at e7
  obtain ⟨⟨rfl, rfl⟩, rfl, rfl⟩ := e7
  have hin := HIN.out
  have hap : ∀ k, nv5 ≤ k ∧ k < mv5 → (Value.slice A2 c.path.length c2).ownBlock ≠ some k := fun k hk e => by
    have h1 := hp1.lt e
    have h2 := hlt k e
    omega
  refine ⟨_, _, _, rfl, ((hp1.keep ESt.ok HK1.out (fun _ h => h.elim) fun g e h => ?_).keep ESt.ok HK2.out (fun _ h => h.elim) fun g e h => ?_).less (by omega), ((hl1.keep EVal.ok HK1.out fun k h e => ?_).keep EVal.ok HK2.out fun k h e => ?_).more EVal.ok fun k _ h => ⟨by omega, hap k h⟩, ((ho1.keep EField.ok HK1.out fun k h e => ?_).keep EField.ok HK2.out fun k h e => ?_).more EField.ok fun k _ h => ⟨by omega, hap k h⟩, ((HE.out.ext HC.out).trans HK1.out fun k hk e => by omega).trans HK2.out fun k hk e => by omega⟩
  · have := (hp1.lt e).1; omega
  · have := (hp1.lt e).1; omega
  all_goals omega
end Go.Proofs.Ytioplgfopillnaa
