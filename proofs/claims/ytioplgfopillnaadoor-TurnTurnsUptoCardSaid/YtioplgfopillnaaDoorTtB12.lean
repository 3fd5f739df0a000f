/- TurnA, TurnB, TurnC, TurnD, TurnF, TurnG, TurnH, SeqA: laid together. -/
import Derived.Test.YtioplgfopillnaaDoorTtB8
import Derived.Test.YtioplgfopillnaaDoorTtB11
import Derived.Test.YtioplgfopillnaaDoorTtB2
import Derived.Test.YtioplgfopillnaaDoorTtB4
/- Components in memory, any of them; comp.Copy. -/
set_option linter.unusedSimpArgs false
set_option linter.unusedVariables false
namespace Go.Proofs.YtioplgfopillnaaDoor
open Go.RowKit
set_option linter.unusedVariables false

/-- A component. -/
structure Cp where
  kind : UInt8
  path : List St
  key : ByteArray
  i : Int
  j : Int
  n : Int
  v : V
  s : ByteArray
abbrev TCMP : Nat := 33
/-- Its cells. -/
abbrev cpCells (c : Cp) (pv lv ov : Value) : Array Value := #[U8 c.kind, pv, .string c.key, .int .i64 c.i, .int .i64 c.j, .int .i64 c.n, U8 c.v.kind, .int .i64 c.v.n, .string c.v.s, lv, ov, .string c.s]
def CAt (w : World) (S : BS) (u : Value) (c : Cp) : Prop := ∃ pv lv ov, u = .agg (cpCells c pv lv ov) ∧ Sl ESt w S pv c.path ∧ Sl EVal w S lv c.v.l ∧ Sl EField w S ov c.v.o
section
variable {w w' : World} {S S' : BS} {u : Value} {c : Cp}
theorem CAt.ext (h : CAt w S u c) (he : Ext w w') : CAt w' S u c := by
  obtain ⟨pv, lv, ov, h1, h2, h3, h4⟩ := h; exact ⟨pv, lv, ov, h1, h2.ext ESt.ok he, h3.ext EVal.ok he, h4.ext EField.ok he⟩
theorem CAt.more (h : CAt w S u c) (hS : ∀ k, k < w.heap.size → S k → S' k) : CAt w S' u c := by
  obtain ⟨pv, lv, ov, h1, h2, h3, h4⟩ := h; exact ⟨pv, lv, ov, h1, h2.more ESt.ok hS, h3.more EVal.ok hS, h4.more EField.ok hS⟩
theorem CAt.keep {Fr : Nat → Prop} (h : CAt w S u c) (hk : Keep Fr w w') (hF : ∀ k, S k → ¬ Fr k) : CAt w' S u c := by
  obtain ⟨pv, lv, ov, h1, h2, h3, h4⟩ := h; exact ⟨pv, lv, ov, h1, h2.keep ESt.ok hk hF, h3.keep EVal.ok hk hF, h4.keep EField.ok hk hF⟩
theorem CAt.cut (h : CAt w S u c) : CAt w (fun k => S k ∧ k < w.heap.size) u c := h.more fun k h1 h2 => ⟨h2, h1⟩
end
theorem cells_st {w w' : World} {S S' : BS} : ∀ {xs : List St} {cs : List Value}, Cells ESt w S cs xs → Cells ESt w' S' cs xs
  | [], _, h => h
  | _ :: _, _, ⟨c0, c1, e, h0, h1⟩ => ⟨c0, c1, e, h0, cells_st h1⟩
theorem own_st {w : World} {base : Nat} {T : TypeId} {S : BS} {v : Value} {xs : List St} (h : Own ESt w base T S v xs) : Sl ESt w (fun k => base ≤ k) v xs := by
  obtain ⟨cs, h1, h2⟩ := h.rowS ESt.ok
  exact ⟨cs, h1.more fun k _ e => (h.lt e).1, cells_st h2⟩
abbrev ZCMP : Array Value := #[.int .u8 0, .slice none 0 0, .string ⟨#[]⟩, .int .i64 0, .int .i64 0, .int .i64 0, .int .u8 0, .int .i64 0, .string ⟨#[]⟩, .slice none 0 0, .slice none 0 0, .string ⟨#[]⟩]
/-- A value of the language, its cells in sight. -/
def VIs (w : World) (S : BS) (u : Value) (v : V) : Prop := ∃ A n A' n', u = .agg #[U8 v.kind, .int .i64 v.n, .string v.s, .slice A v.l.length n, .slice A' v.o.length n'] ∧ Sl EVal w S (.slice A v.l.length n) v.l ∧ Sl EField w S (.slice A' v.o.length n') v.o
theorem VIs.of {w : World} {S : BS} {u : Value} {v : V} (h : VAt w S u v) : VIs w S u v := by
  obtain ⟨lv, ov, rfl, h1, h2⟩ := h
  obtain ⟨A, c, rfl, _⟩ := h1.shape
  obtain ⟨A', c', rfl, _⟩ := h2.shape
  exact ⟨A, c, A', c', rfl, h1, h2⟩
theorem VIs.ext {w w' : World} {S : BS} {u : Value} {v : V} (h : VIs w S u v) (he : Ext w w') : VIs w' S u v := by
  obtain ⟨A, n, A', n', h1, h2, h3⟩ := h; exact ⟨A, n, A', n', h1, h2.ext EVal.ok he, h3.ext EField.ok he⟩
set_option maxRecDepth 20000 in
set_option maxHeartbeats 3200000 in
theorem comp_copy (w : World) (S : BS) (u : Value) (c : Cp) (h : CAt w S u c) (hp : c.path.length ≤ 1000) (hv : c.v.size ≤ 1000000) :
    Calls Tryd.prog 25 #[u] w fun e w' => ∃ u', e = .returned u' ∧ CAt w' (fun k => w.heap.size ≤ k) u' c ∧ Ext w w' := by
  obtain ⟨pv, lv, ov, rfl, h1, h2, h3⟩ := h.cut
  obtain ⟨Ap, cp, rfl, hpl, hpm⟩ := h1.shape
  obtain ⟨Al, cl, rfl, hll, hlm⟩ := h2.shape
  obtain ⟨Ao, co, rfl, hol, hom⟩ := h3.shape
  obtain ⟨W, hW⟩ : ∃ W, (w.alloc (.cells (cpCells c (.slice Ap c.path.length cp) (.slice Al c.v.l.length cl) (.slice Ao c.v.o.length co)) TCMP)) = W := ⟨_, rfl⟩
  have hE : Ext w W := by rw [← hW]; exact (Keep.refl _ _).alloc _
  have hb : Blk W w.heap.size TCMP (cpCells c (.slice Ap c.path.length cp) (.slice Al c.v.l.length cl) (.slice Ao c.v.o.length co)) := by rw [← hW]; exact Blk.new _ _ _
  obtain ⟨W2, hW2⟩ : ∃ W2, W.alloc (.cells ZCMP TCMP) = W2 := ⟨_, rfl⟩
  have hE2 : Ext W W2 := by rw [← hW2]; exact (Keep.refl _ _).alloc _
  have hr : Blk W2 W.heap.size TCMP ZCMP := by rw [← hW2]; exact Blk.new _ _ _
  have hb2 := hb.keep hE2 id
  have p1 := hb2.cell 1
  have v0 := hb2.cell 6
  have v1 := hb2.cell 7
  have v2 := hb2.cell 8
  have v3 := hb2.cell 9
  have v4 := hb2.cell 10
  simp at p1 v0 v1 v2 v3 v4
  have hsz : W.heap.size = w.heap.size + 1 := by rw [← hW]; simp
  have hsz2 : W2.heap.size = W.heap.size + 1 := by rw [← hW2]; simp
  have H1 := hid ((h1.ext ESt.ok hE).ext ESt.ok hE2)
  have HV := hid (show VAt W2 (fun k => S k ∧ k < w.heap.size) (.agg #[U8 c.v.kind, .int .i64 c.v.n, .string c.v.s, .slice Al c.v.l.length cl, .slice Ao c.v.o.length co]) c.v from ⟨_, _, rfl, (h2.ext EVal.ok hE).ext EVal.ok hE2, (h3.ext EField.ok hE).ext EField.ok hE2⟩)
  have HB := hid hb2
  have HR := hid hr
  have HE := hid (hE.ext hE2)
  have HSZ := hid hsz
  have HSZ2 := hid hsz2
  rw [hsz] at hr
  clear h1 h2 h3 hb hE h hE2 hb2 hr hsz hsz2
  go_enter Tryd.func25, Tryd.ntmps25
  go_wp2_with fail
  refine wp_region_parts [] [0, 1, 2, 3, 4, 5, 6] [7, 8, 9] (specOf [(2, fun v w' => SlShape ESt w' (fun k => W2.heap.size ≤ k) v c.path.length c.path), (5, fun v w' => VIs w' (fun k => W2.heap.size ≤ k) v c.v)]) (fun w' => Ext W2 w') (stable_cons (fun v w w' h he => h.ext ESt.ok he) (stable_cons (fun v w w' h he => h.ext he) stable_nil)) (stableC_ext _) (by kernel_rfl) (by kernel_rfl) (Keep.drew (Keep.refl _ _)) ?_
  refine pure_nil ?_
  iterate 2
    (try simp only [Act.put, List.setIfInBounds_toArray, List.set_cons_zero, List.set_cons_succ])
    refine growP_run rfl rfl rfl ?_
    apply Exists.intro
    refine ⟨fun w' hC hK => ?_, ?_⟩
    · have p1 := (hC.cell (lt_of_cell p1) id).trans p1
      go_simp
      rfl
  (try simp only [Act.put, List.setIfInBounds_toArray, List.set_cons_zero, List.set_cons_succ])
  refine growP_eff rfl rfl rfl (fun w' hC hK => ?_) (fun v2 hv2 => ?_)
  · unfold growAt
    go_simp
    refine grow_call ((clone_steps _ _ _ _ (H1.out.ext ESt.ok hC) (Nat.le_trans hp (by decide)) (fun k h => by have := hC.size; have := HSZ.out; have := HSZ2.out; have := h.2; omega)).mono ?_)
    rintro e w'' ⟨v', rfl, h1, h2⟩
    obtain ⟨A5, c5, rfl, _⟩ := h1.shape
    exact ⟨_, rfl, h2, A5, c5, rfl, (own_st h1).more ESt.ok fun k _ h => Nat.le_trans hC.size h⟩
  obtain ⟨_, _, A2, c2, rfl, _⟩ := hv2.head
  iterate 2
    (try simp only [Act.put, List.setIfInBounds_toArray, List.set_cons_zero, List.set_cons_succ])
    refine growP_run rfl rfl rfl ?_
    apply Exists.intro
    refine ⟨fun w' hC hK => ?_, ?_⟩
    · have v0 := (hC.cell (lt_of_cell v0) id).trans v0
      have v1 := (hC.cell (lt_of_cell v1) id).trans v1
      have v2 := (hC.cell (lt_of_cell v2) id).trans v2
      have v3 := (hC.cell (lt_of_cell v3) id).trans v3
      have v4 := (hC.cell (lt_of_cell v4) id).trans v4
      go_simp
      rfl
  (try simp only [Act.put, List.setIfInBounds_toArray, List.set_cons_zero, List.set_cons_succ])
  refine growP_eff rfl rfl rfl (fun w' hC hK => ?_) (fun v5 hv5 => ?_)
  · unfold growAt
    go_simp
    refine grow_call ((copy_valT _ c.v (Nat.le_refl _) hv _ _ _ (HV.out.ext hC)).mono ?_)
    rintro e w'' h
    obtain ⟨u', rfl, h1, h2⟩ := h.at_
    exact ⟨_, rfl, h2, .of (h1.more fun k _ h => Nat.le_trans hC.size h)⟩
  obtain ⟨_, _, A5, m5, B5, k5, rfl, _⟩ := hv5.head
  iterate 1
    (try simp only [Act.put, List.setIfInBounds_toArray, List.set_cons_zero, List.set_cons_succ])
    refine growP_run rfl rfl rfl ?_
    apply Exists.intro
    refine ⟨fun w' hC hK => ?_, ?_⟩
    · go_simp
      rfl
  refine growP_nil fun wz hC hK => ?_
  have hC : Ext W2 wz := hC
  have HC := hid hC
  have HPV := hid (show SlShape ESt wz (fun k => W2.heap.size ≤ k) (.slice A2 c.path.length c2) c.path.length c.path from hK (2, _) (List.mem_cons_of_mem _ List.mem_cons_self))
  have HVV := hid (show VIs wz (fun k => W2.heap.size ≤ k) (.agg #[U8 c.v.kind, .int .i64 c.v.n, .string c.v.s, .slice A5 c.v.l.length m5, .slice B5 c.v.o.length k5]) c.v from hK (5, _) List.mem_cons_self)
  have hb := HB.out.keep hC id
  have hr := HR.out.keep hC id
  have HB1 := hid hb
  have HR1 := hid hr
  have hbz : w.heap.size < W.heap.size := by have := HSZ.out; omega
  have f1 := hb.frozen 1
  have f6 := hb.frozen 6
  have f7 := hb.frozen 7
  have f8 := hb.frozen 8
  have f9 := hb.frozen 9
  have f10 := hb.frozen 10
  have y1 := hb.cell 1
  have y6 := hb.cell 6
  have y7 := hb.cell 7
  have y8 := hb.cell 8
  have y9 := hb.cell 9
  have y10 := hb.cell 10
  simp at y1 y6 y7 y8 y9 y10
  obtain ⟨X1, hX1⟩ : ∃ X1, (((((wz.setCell ⟨w.heap.size, 1, none⟩ (.slice A2 c.path.length c2)).setCell ⟨w.heap.size, 6, none⟩ (.int .u8 (c.v.kind.toNat : Int))).setCell ⟨w.heap.size, 7, none⟩ (.int .i64 c.v.n)).setCell ⟨w.heap.size, 8, none⟩ (.string c.v.s)).setCell ⟨w.heap.size, 9, none⟩ (.slice A5 c.v.l.length m5)).setCell ⟨w.heap.size, 10, none⟩ (.slice B5 c.v.o.length k5) = X1 := ⟨_, rfl⟩
  have hk1 : Keep (· = w.heap.size) wz X1 := by
    rw [← hX1]
    exact ((((((Keep.refl (· = w.heap.size) wz).set1 1 _).set1 6 _).set1 7 _).set1 8 _).set1 9 _).set1 10 _
  have hx1 : Blk X1 w.heap.size TCMP (cpCells c (.slice A2 c.path.length c2) (.slice A5 c.v.l.length m5) (.slice B5 c.v.o.length k5)) := by
    rw [← hX1]
    exact (((((hb.set_ 1 (.slice A2 c.path.length c2)).set_ 6 (U8 c.v.kind)).set_ 7 (.int .i64 c.v.n)).set_ 8 (.string c.v.s)).set_ 9 (.slice A5 c.v.l.length m5)).set_ 10 (.slice B5 c.v.o.length k5)
  have hr1 : Blk X1 W.heap.size TCMP ZCMP := hr.keep hk1 (by omega)
  have HX1 := hid hx1
  have HRX := hid hr1
  have HK1 := hid hk1
  have HX := hid hX1
  clear hx1 hr1 hk1 hX1 hb hr hC hK
  change wpList _ _ _ (_ :: _ :: _ :: []) _ _
  (try simp only [Act.put, List.setIfInBounds_toArray, List.set_cons_zero, List.set_cons_succ])
  go_wp2_with fail
  refine NoPanic.normal ?_
  rw [HX.out]
  have a0 := HX1.out.cell 0
  have a1 := HX1.out.cell 1
  have a2 := HX1.out.cell 2
  have a3 := HX1.out.cell 3
  have a4 := HX1.out.cell 4
  have a5 := HX1.out.cell 5
  have a6 := HX1.out.cell 6
  have a7 := HX1.out.cell 7
  have a8 := HX1.out.cell 8
  have a9 := HX1.out.cell 9
  have a10 := HX1.out.cell 10
  have a11 := HX1.out.cell 11
  have z0 := HRX.out.cell 0
  have g0 := HRX.out.frozen 0
  have z1 := HRX.out.cell 1
  have g1 := HRX.out.frozen 1
  have z2 := HRX.out.cell 2
  have g2 := HRX.out.frozen 2
  have z3 := HRX.out.cell 3
  have g3 := HRX.out.frozen 3
  have z4 := HRX.out.cell 4
  have g4 := HRX.out.frozen 4
  have z5 := HRX.out.cell 5
  have g5 := HRX.out.frozen 5
  have z6 := HRX.out.cell 6
  have g6 := HRX.out.frozen 6
  have z7 := HRX.out.cell 7
  have g7 := HRX.out.frozen 7
  have z8 := HRX.out.cell 8
  have g8 := HRX.out.frozen 8
  have z9 := HRX.out.cell 9
  have g9 := HRX.out.frozen 9
  have z10 := HRX.out.cell 10
  have g10 := HRX.out.frozen 10
  have z11 := HRX.out.cell 11
  have g11 := HRX.out.frozen 11
  simp at a0 a1 a2 a3 a4 a5 a6 a7 a8 a9 a10 a11 z0 z1 z2 z3 z4 z5 z6 z7 z8 z9 z10 z11
  have hne : w.heap.size ≠ W.heap.size := by omega
  clear f1 f6 f7 f8 f9 f10 y1 y6 y7 y8 y9 y10 HX
  have HK2 := hid (show Keep (· = W.heap.size) X1 ((((((((((((X1.setCell ⟨W.heap.size, 0, none⟩ (.int .u8 (c.kind.toNat : Int))).setCell ⟨W.heap.size, 1, none⟩ (.slice A2 c.path.length c2)).setCell ⟨W.heap.size, 2, none⟩ (.string c.key)).setCell ⟨W.heap.size, 3, none⟩ (.int .i64 c.i)).setCell ⟨W.heap.size, 4, none⟩ (.int .i64 c.j)).setCell ⟨W.heap.size, 5, none⟩ (.int .i64 c.n)).setCell ⟨W.heap.size, 6, none⟩ (.int .u8 (c.v.kind.toNat : Int))).setCell ⟨W.heap.size, 7, none⟩ (.int .i64 c.v.n)).setCell ⟨W.heap.size, 8, none⟩ (.string c.v.s)).setCell ⟨W.heap.size, 9, none⟩ (.slice A5 c.v.l.length m5)).setCell ⟨W.heap.size, 10, none⟩ (.slice B5 c.v.o.length k5)).setCell ⟨W.heap.size, 11, none⟩ (.string c.s)) from (((((((((((((Keep.refl (· = W.heap.size) X1).set1 0 _).set1 1 _).set1 2 _).set1 3 _).set1 4 _).set1 5 _).set1 6 _).set1 7 _).set1 8 _).set1 9 _).set1 10 _).set1 11 _))
  go_wp2
  refine bodyPost_ret (v := .agg (cpCells c (.slice A2 c.path.length c2) (.slice A5 c.v.l.length m5) (.slice B5 c.v.o.length k5))) (by simp [results, Tryd.results25, go_sem, z0, z1, z2, z3, z4, z5, z6, z7, z8, z9, z10, z11]) rfl ⟨_, rfl, ?_, ?_⟩
  · have hs2 := HSZ2.out
    have hnb : ∀ k, W2.heap.size ≤ k → ¬ k = w.heap.size := fun k h e => by omega
    have hnr : ∀ k, W2.heap.size ≤ k → ¬ k = W.heap.size := fun k h e => by omega
    obtain ⟨A6, c6, e6, hp1⟩ := HPV.out
    injection e6 with e1 _ e2
    subst e1 e2
    obtain ⟨A7, n7, B7, k7, e7, hl1, ho1⟩ := HVV.out
    simp only [Value.agg.injEq] at e7
    simp at e7
    obtain ⟨⟨rfl, rfl⟩, rfl, rfl⟩ := e7
    exact ⟨_, _, _, rfl, ((hp1.keep ESt.ok HK1.out hnb).keep ESt.ok HK2.out hnr).more ESt.ok fun k _ h => by omega, ((hl1.keep EVal.ok HK1.out hnb).keep EVal.ok HK2.out hnr).more EVal.ok fun k _ h => by omega, ((ho1.keep EField.ok HK1.out hnb).keep EField.ok HK2.out hnr).more EField.ok fun k _ h => by omega⟩
  · exact ((HE.out.ext HC.out).trans HK1.out fun k hk e => by omega).trans HK2.out fun k hk e => by omega
end Go.Proofs.YtioplgfopillnaaDoor

/- law06: plain, text. -/
set_option linter.unusedSimpArgs false
set_option linter.unusedVariables false
namespace Go.Proofs.YtioplgfopillnaaDoor
open Go.RowKit
set_option linter.unusedVariables false

/-- An act's numbers and text. -/
structure Ac where
  path : List UInt8
  kind : UInt8
  i : Int
  j : Int
  n : Int
  s : ByteArray
  v : List Tk
abbrev acCells (a : Ac) (pv vv : Value) : Array Value := #[pv, U8 a.kind, .int .i64 a.i, .int .i64 a.j, .int .i64 a.n, .string a.s, vv]
def AAt (w : World) (S : BS) (u : Value) (a : Ac) : Prop := ∃ pv vv, u = .agg (acCells a pv vv) ∧ BytesS w S pv a.path ∧ Sl ETok w S vv a.v
theorem AAt.ext {w w' : World} {S : BS} {u : Value} {a : Ac} (h : AAt w S u a) (he : Ext w w') : AAt w' S u a := by
  obtain ⟨pv, vv, h1, h2, h3⟩ := h; exact ⟨pv, vv, h1, h2.ext EU8.ok he, h3.ext ETok.ok he⟩
end Go.Proofs.YtioplgfopillnaaDoor

/- law06: list. -/
set_option linter.unusedSimpArgs false
set_option linter.unusedVariables false
namespace Go.Proofs.YtioplgfopillnaaDoor
open Go.RowKit
set_option linter.unusedVariables false

end Go.Proofs.YtioplgfopillnaaDoor

/- law06: field. -/
set_option linter.unusedSimpArgs false
set_option linter.unusedVariables false
namespace Go.Proofs.YtioplgfopillnaaDoor
open Go.RowKit
set_option linter.unusedVariables false

end Go.Proofs.YtioplgfopillnaaDoor

/- turn.Turn of components at paths of which none begins with the other's; the reference's Begins. -/
set_option linter.unusedSimpArgs false
set_option linter.unusedVariables false
namespace Go.Proofs.YtioplgfopillnaaDoor
open Go.RowKit
set_option linter.unusedVariables false

theorem BegIs.yes {p q : List St} {w w' : World} {e : Ending} (h : BegIs p q w e w') (hb : q <+: p) : e = .returned (.bool true) ∧ Ext w w' := by
  obtain ⟨⟨h1, _⟩ | ⟨_, h1⟩, h2⟩ := h
  · exact ⟨h1, h2⟩
  · exact absurd hb h1
theorem BegIs.no {p q : List St} {w w' : World} {e : Ending} (h : BegIs p q w e w') (hb : ¬ q <+: p) : e = .returned (.bool false) ∧ Ext w w' := by
  obtain ⟨⟨_, h1⟩ | ⟨h1, _⟩, h2⟩ := h
  · exact absurd h1 hb
  · exact ⟨h1, h2⟩
/-- As a truth. -/
theorem BegIs.is {p q : List St} {w w' : World} {e : Ending} (h : BegIs p q w e w') (b : Bool) (hb : b = true ↔ q <+: p) : e = .returned (.bool b) ∧ Ext w w' := by
  cases b with
  | true => exact h.yes (hb.1 rfl)
  | false => exact h.no fun hc => by simpa using hb.2 hc

set_option maxHeartbeats 1600000 in
theorem rbegins_ok (w : World) (S S2 : BS) (v u : Value) (p q : List St) (h : Sl ESt w S v p) (h2 : Sl ESt w S2 u q) :
    Calls Tryd.prog 30 #[v, u] w (BegIs p q w) := by
  obtain ⟨A, c, rfl, hlc, hcm⟩ := h.shape
  obtain ⟨A2, c2, rfl, hlc2, hcm2⟩ := h2.shape
  unfold maxLen at hcm hcm2
  have HA := hid h
  have HB := hid h2
  clear h h2
  by_cases hlen : p.length < q.length
  · have hlenX : (p.length : Int) < q.length := by omega
    have HNE := hid (show ¬ q <+: p from fun e => by have := e.length_le; omega)
    clear hlen
    go_enter Tryd.func30, Tryd.ntmps30
    go_wp2
    go_ret
    exact ⟨.inr ⟨rfl, HNE.out⟩, Keep.refl _ _⟩
  · have hlenX : ¬ (p.length : Int) < q.length := by omega
    have HLEN := hid (show q.length ≤ p.length by omega)
    clear hlen
    go_enter Tryd.func30, Tryd.ntmps30
    go_wp2
    clear hlenX
    go_loopw [5] (fun i wr => ∃ j : Nat, j ≤ q.length ∧ i = .int .i64 j ∧ p.take j = q.take j ∧ Ext w wr) (fun i _ => q.length - (intOf i).toNat)
    case atStart => exact ⟨0, by omega, rfl, rfl, Keep.refl _ _⟩
    case round =>
      obtain ⟨j, hj, rfl, hpq, hE⟩ := hrel
      have HPQ := hid hpq
      clear hpq
      by_cases hlt2 : j < q.length
      · have hlt : j < p.length := by have := HLEN.out; omega
        obtain ⟨b1, o1, c0, rfl, _, _, hrd, hcell⟩ := (HA.out.ext ESt.ok hE).at_ ESt.ok hlt
        obtain ⟨b2, o2, c3, rfl, _, _, hrd2, hcell2⟩ := (HB.out.ext ESt.ok hE).at_ ESt.ok hlt2
        have HN := hid (And.intro (take_succ_get p j hlt) (take_succ_get q j hlt2))
        have HD := hid (show q <+: p → p[j] = q[j] from fun e => by
          obtain ⟨t, ht⟩ := e
          subst ht
          rw [List.getElem_append_left hlt2])
        generalize p[j] = s at *
        generalize q[j] = t at *
        obtain rfl : c0 = [.bool s.list, .int .i64 s.i, .string s.key] := hrd
        obtain rfl : c3 = [.bool t.list, .int .i64 t.i, .string t.key] := hrd2
        have e0 := hcell 0 _ rfl
        have e1 := hcell 1 _ rfl
        have e2 := hcell 2 _ rfl
        have d0 := hcell2 0 _ rfl
        have d1 := hcell2 1 _ rfl
        have d2 := hcell2 2 _ rfl
        have hz : ESt.size = 3 := rfl
        simp only [hz, Nat.add_zero] at e0 e1 e2 d0 d1 d2
        have HE := hid hE
        clear hz hcell hcell2 hE
        by_cases g1 : s.list = t.list
        · by_cases g2 : s.i = t.i
          · by_cases g3 : s.key.toList = t.key.toList
            · have HST := hid (show s = t from by
                cases s; cases t
                simp only at g1 g2 g3
                rw [g1, g2, key_eq g3])
              go_wp2_with fail
              refine wp_region_grow (specOf []) (fun w' => Ext wr w') stable_nil (stableC_ext _) (by kernel_rfl) (by kernel_rfl) (Keep.drew (Keep.refl _ _)) ?_
              iterate 9
                (try simp only [Act.put, List.setIfInBounds_toArray, List.set_cons_zero, List.set_cons_succ])
                refine grow_run rfl rfl rfl ?_
                apply Exists.intro
                refine ⟨fun w' hC hK => ?_, ?_⟩
                · have e0 := (hC.cell (lt_of_cell e0) id).trans e0
                  have e1 := (hC.cell (lt_of_cell e1) id).trans e1
                  have e2 := (hC.cell (lt_of_cell e2) id).trans e2
                  have d0 := (hC.cell (lt_of_cell d0) id).trans d0
                  have d1 := (hC.cell (lt_of_cell d1) id).trans d1
                  have d2 := (hC.cell (lt_of_cell d2) id).trans d2
                  go_simp
                  rfl
              refine grow_nil fun w5 hC _ => ?_
              have HE5 := hid (HE.out.ext (show Ext wr w5 from hC))
              clear hC e0 e1 e2 d0 d1 d2
              go_wp2
              go_roundw
              case rel => exact ⟨j + 1, by omega, by go_num, by rw [HN.out.1, HN.out.2, HPQ.out, HST.out], HE5.out⟩
              case measure => simp [intOf]; omega
            · have HNE := hid (show s ≠ t from fun e => g3 (by rw [e]))
              go_wp2_with fail
              refine wp_region_grow (specOf []) (fun w' => Ext wr w') stable_nil (stableC_ext _) (by kernel_rfl) (by kernel_rfl) (Keep.drew (Keep.refl _ _)) ?_
              iterate 9
                (try simp only [Act.put, List.setIfInBounds_toArray, List.set_cons_zero, List.set_cons_succ])
                refine grow_run rfl rfl rfl ?_
                apply Exists.intro
                refine ⟨fun w' hC hK => ?_, ?_⟩
                · have e0 := (hC.cell (lt_of_cell e0) id).trans e0
                  have e1 := (hC.cell (lt_of_cell e1) id).trans e1
                  have e2 := (hC.cell (lt_of_cell e2) id).trans e2
                  have d0 := (hC.cell (lt_of_cell d0) id).trans d0
                  have d1 := (hC.cell (lt_of_cell d1) id).trans d1
                  have d2 := (hC.cell (lt_of_cell d2) id).trans d2
                  go_simp
                  rfl
              refine grow_nil fun w5 hC _ => ?_
              have HE5 := hid (HE.out.ext (show Ext wr w5 from hC))
              clear hC e0 e1 e2 d0 d1 d2
              go_wp2
              go_ret
              exact ⟨.inr ⟨rfl, fun e => HNE.out (HD.out e)⟩, HE5.out⟩
          · have HNE := hid (show s ≠ t from fun e => g2 (by rw [e]))
            go_wp2_with fail
            refine wp_region_grow (specOf []) (fun w' => Ext wr w') stable_nil (stableC_ext _) (by kernel_rfl) (by kernel_rfl) (Keep.drew (Keep.refl _ _)) ?_
            iterate 9
              (try simp only [Act.put, List.setIfInBounds_toArray, List.set_cons_zero, List.set_cons_succ])
              refine grow_run rfl rfl rfl ?_
              apply Exists.intro
              refine ⟨fun w' hC hK => ?_, ?_⟩
              · have e0 := (hC.cell (lt_of_cell e0) id).trans e0
                have e1 := (hC.cell (lt_of_cell e1) id).trans e1
                have e2 := (hC.cell (lt_of_cell e2) id).trans e2
                have d0 := (hC.cell (lt_of_cell d0) id).trans d0
                have d1 := (hC.cell (lt_of_cell d1) id).trans d1
                have d2 := (hC.cell (lt_of_cell d2) id).trans d2
                go_simp
                rfl
            refine grow_nil fun w5 hC _ => ?_
            have HE5 := hid (HE.out.ext (show Ext wr w5 from hC))
            clear hC e0 e1 e2 d0 d1 d2
            go_wp2
            go_ret
            exact ⟨.inr ⟨rfl, fun e => HNE.out (HD.out e)⟩, HE5.out⟩
        · have HNE := hid (show s ≠ t from fun e => g1 (by rw [e]))
          go_wp2_with fail
          refine wp_region_grow (specOf []) (fun w' => Ext wr w') stable_nil (stableC_ext _) (by kernel_rfl) (by kernel_rfl) (Keep.drew (Keep.refl _ _)) ?_
          iterate 9
            (try simp only [Act.put, List.setIfInBounds_toArray, List.set_cons_zero, List.set_cons_succ])
            refine grow_run rfl rfl rfl ?_
            apply Exists.intro
            refine ⟨fun w' hC hK => ?_, ?_⟩
            · have e0 := (hC.cell (lt_of_cell e0) id).trans e0
              have e1 := (hC.cell (lt_of_cell e1) id).trans e1
              have e2 := (hC.cell (lt_of_cell e2) id).trans e2
              have d0 := (hC.cell (lt_of_cell d0) id).trans d0
              have d1 := (hC.cell (lt_of_cell d1) id).trans d1
              have d2 := (hC.cell (lt_of_cell d2) id).trans d2
              go_simp
              rfl
          refine grow_nil fun w5 hC _ => ?_
          have HE5 := hid (HE.out.ext (show Ext wr w5 from hC))
          clear hC e0 e1 e2 d0 d1 d2
          go_wp2
          go_ret
          exact ⟨.inr ⟨rfl, fun e => HNE.out (HD.out e)⟩, HE5.out⟩
      · obtain rfl : j = q.length := by omega
        have HE := hid hE
        clear hE
        go_wp2
        go_ret
        refine ⟨.inl ⟨rfl, ?_⟩, HE.out⟩
        have := HPQ.out
        rw [List.take_length] at this
        exact this ▸ List.take_prefix _ _


theorem set12f {w : World} {b : Nat} {T : TypeId} {cs : Array Value} (h : Blk w b T cs) (hc : cs.size = 12) (a0 a1 a2 a3 a4 a5 a6 a7 a8 a9 a10 a11 : Value) : Blk ((((((((((((w.setCell ⟨b, 0, none⟩ a0).setCell ⟨b, 1, none⟩ a1).setCell ⟨b, 2, none⟩ a2).setCell ⟨b, 3, none⟩ a3).setCell ⟨b, 4, none⟩ a4).setCell ⟨b, 5, none⟩ a5).setCell ⟨b, 6, none⟩ a6).setCell ⟨b, 7, none⟩ a7).setCell ⟨b, 8, none⟩ a8).setCell ⟨b, 9, none⟩ a9).setCell ⟨b, 10, none⟩ a10).setCell ⟨b, 11, none⟩ a11) b T #[a0, a1, a2, a3, a4, a5, a6, a7, a8, a9, a10, a11] := by
  obtain ⟨l⟩ := cs
  match l, hc with
  | [x0, x1, x2, x3, x4, x5, x6, x7, x8, x9, x10, x11], _ =>
    have h1 := ((((((((((((h.set_ 0 a0).set_ 1 a1).set_ 2 a2).set_ 3 a3).set_ 4 a4).set_ 5 a5).set_ 6 a6).set_ 7 a7).set_ 8 a8).set_ 9 a9).set_ 10 a10).set_ 11 a11)
    simp only [List.setIfInBounds_toArray, List.set_cons_zero, List.set_cons_succ] at h1
    exact h1

def TurnOne (w : World) (x : Cp) (e : Ending) (w' : World) : Prop := ∃ g pv lv ov, e = .returned (.slice (some ⟨g, 0, none⟩) 1 1) ∧ Blk w' g TCMP (cpCells x pv lv ov) ∧ Sl ESt w' (fun k => w.heap.size ≤ k) pv x.path ∧ Sl EVal w' (fun k => w.heap.size ≤ k) lv x.v.l ∧ Sl EField w' (fun k => w.heap.size ≤ k) ov x.v.o ∧ Ext w w'
set_option maxRecDepth 20000 in
set_option maxHeartbeats 3200000 in
theorem turn_apart (w : World) (S S2 : BS) (u t : Value) (x y : Cp) (left : Bool) (hx : CAt w S u x) (hy : CAt w S2 t y) (hp : x.path.length ≤ 1000) (hv : x.v.size ≤ 1000000) (hn : ¬ y.path <+: x.path) :
    Calls Tryd.prog 13 #[u, t, .bool left] w (TurnOne w x) := by
  obtain ⟨pv, lv, ov, rfl, h1, h2, h3⟩ := hx.cut
  obtain ⟨Ap, cp, rfl, _⟩ := h1.shape
  obtain ⟨Al, cl, rfl, _⟩ := h2.shape
  obtain ⟨Ao, co, rfl, _⟩ := h3.shape
  obtain ⟨qv, mv, nv, rfl, k1, k2, k3⟩ := hy.cut
  obtain ⟨Bp, dp, rfl, _⟩ := k1.shape
  obtain ⟨Bl, dl, rfl, _⟩ := k2.shape
  obtain ⟨Bo, do_, rfl, _⟩ := k3.shape
  obtain ⟨W, hW⟩ : ∃ W, (w.alloc (.cells (cpCells x (.slice Ap x.path.length cp) (.slice Al x.v.l.length cl) (.slice Ao x.v.o.length co)) TCMP)).alloc (.cells (cpCells y (.slice Bp y.path.length dp) (.slice Bl y.v.l.length dl) (.slice Bo y.v.o.length do_)) TCMP) = W := ⟨_, rfl⟩
  have hE : Ext w W := by rw [← hW]; exact ((Keep.refl _ _).alloc _).alloc _
  have hsz : W.heap.size = w.heap.size + 2 := by rw [← hW]; simp
  have hb : Blk W w.heap.size TCMP (cpCells x (.slice Ap x.path.length cp) (.slice Al x.v.l.length cl) (.slice Ao x.v.o.length co)) := by rw [← hW]; exact (Blk.new _ _ _).alloc _
  have hc : Blk W (w.heap.size + 1) TCMP (cpCells y (.slice Bp y.path.length dp) (.slice Bl y.v.l.length dl) (.slice Bo y.v.o.length do_)) := by
    have := Blk.new (w.alloc (.cells (cpCells x (.slice Ap x.path.length cp) (.slice Al x.v.l.length cl) (.slice Ao x.v.o.length co)) TCMP)) TCMP (cpCells y (.slice Bp y.path.length dp) (.slice Bl y.v.l.length dl) (.slice Bo y.v.o.length do_))
    rw [World.size_alloc, hW] at this
    exact this
  have HX := hid (show CAt W (fun k => k < w.heap.size) (.agg (cpCells x (.slice Ap x.path.length cp) (.slice Al x.v.l.length cl) (.slice Ao x.v.o.length co))) x from (CAt.ext ⟨_, _, _, rfl, h1, h2, h3⟩ hE).more fun k _ h => h.2)
  have HQ := hid ((k1.more (S' := fun k => k < w.heap.size) ESt.ok fun k _ h => h.2).ext ESt.ok hE)
  have HB := hid hb
  have HC := hid hc
  have HE := hid hE
  have HN := hid hn
  have a0 := hb.cell 0
  have a1 := hb.cell 1
  have a2 := hb.cell 2
  have a3 := hb.cell 3
  have a4 := hb.cell 4
  have a5 := hb.cell 5
  have a6 := hb.cell 6
  have a7 := hb.cell 7
  have a8 := hb.cell 8
  have a9 := hb.cell 9
  have a10 := hb.cell 10
  have a11 := hb.cell 11
  simp at a0 a1 a2 a3 a4 a5 a6 a7 a8 a9 a10 a11
  clear h1 h2 h3 k1 k2 k3 hE hb hc hx hy hn
  go_enter Tryd.func13, Tryd.ntmps13
  go_wp2_with fail
  refine (comp_copy W _ _ x HX.out hp hv).mono ?_
  rintro e X1 ⟨u', rfl, hu', hE1⟩
  obtain ⟨pv2, lv2, ov2, rfl, g1, g2, g3⟩ := hu'
  obtain ⟨Ap2, cp2, rfl, _⟩ := g1.shape
  obtain ⟨Al2, cl2, rfl, _⟩ := g2.shape
  obtain ⟨Ao2, co2, rfl, _⟩ := g3.shape
  have hs1 := hE1.size
  have hb := HB.out.keep hE1 id
  obtain ⟨X2, hX2⟩ : ∃ X2, ((((((((((((X1.setCell ⟨w.heap.size, 0, none⟩ (.int .u8 (x.kind.toNat : Int))).setCell ⟨w.heap.size, 1, none⟩ (.slice Ap2 x.path.length cp2)).setCell ⟨w.heap.size, 2, none⟩ (.string x.key)).setCell ⟨w.heap.size, 3, none⟩ (.int .i64 x.i)).setCell ⟨w.heap.size, 4, none⟩ (.int .i64 x.j)).setCell ⟨w.heap.size, 5, none⟩ (.int .i64 x.n)).setCell ⟨w.heap.size, 6, none⟩ (.int .u8 (x.v.kind.toNat : Int))).setCell ⟨w.heap.size, 7, none⟩ (.int .i64 x.v.n)).setCell ⟨w.heap.size, 8, none⟩ (.string x.v.s)).setCell ⟨w.heap.size, 9, none⟩ (.slice Al2 x.v.l.length cl2)).setCell ⟨w.heap.size, 10, none⟩ (.slice Ao2 x.v.o.length co2)).setCell ⟨w.heap.size, 11, none⟩ (.string x.s)) = X2 := ⟨_, rfl⟩
  have hk : Keep (· = w.heap.size) X1 X2 := by rw [← hX2]; exact ((((((((((((Keep.refl (· = w.heap.size) X1).set1 0 _).set1 1 _).set1 2 _).set1 3 _).set1 4 _).set1 5 _).set1 6 _).set1 7 _).set1 8 _).set1 9 _).set1 10 _).set1 11 _
  have hb2 : Blk X2 w.heap.size TCMP (cpCells x (.slice Ap2 x.path.length cp2) (.slice Al2 x.v.l.length cl2) (.slice Ao2 x.v.o.length co2)) := by rw [← hX2]; exact set12f hb rfl (.int .u8 (x.kind.toNat : Int)) (.slice Ap2 x.path.length cp2) (.string x.key) (.int .i64 x.i) (.int .i64 x.j) (.int .i64 x.n) (.int .u8 (x.v.kind.toNat : Int)) (.int .i64 x.v.n) (.string x.v.s) (.slice Al2 x.v.l.length cl2) (.slice Ao2 x.v.o.length co2) (.string x.s)
  have HG1 := hid (g1.keep ESt.ok hk fun k h e => by omega)
  have HG2 := hid (g2.keep EVal.ok hk fun k h e => by omega)
  have HG3 := hid (g3.keep EField.ok hk fun k h e => by omega)
  have HB2 := hid hb2
  have HC2 := hid ((HC.out.keep hE1 id).keep hk (by omega))
  have HQ2 := hid ((HQ.out.ext ESt.ok hE1).keep ESt.ok hk fun k h e => by omega)
  have HE2 := hid ((HE.out.ext hE1).trans hk fun k hk e => by omega)
  have HX2 := hid hX2
  have b0 := hb.cell 0
  have f0 := hb.frozen 0
  have b1 := hb.cell 1
  have f1 := hb.frozen 1
  have b2 := hb.cell 2
  have f2 := hb.frozen 2
  have b3 := hb.cell 3
  have f3 := hb.frozen 3
  have b4 := hb.cell 4
  have f4 := hb.frozen 4
  have b5 := hb.cell 5
  have f5 := hb.frozen 5
  have b6 := hb.cell 6
  have f6 := hb.frozen 6
  have b7 := hb.cell 7
  have f7 := hb.frozen 7
  have b8 := hb.cell 8
  have f8 := hb.frozen 8
  have b9 := hb.cell 9
  have f9 := hb.frozen 9
  have b10 := hb.cell 10
  have f10 := hb.frozen 10
  have b11 := hb.cell 11
  have f11 := hb.frozen 11
  simp at b0 b1 b2 b3 b4 b5 b6 b7 b8 b9 b10 b11
  have y1 := (HC.out.keep hE1 id).cell 1
  simp at y1
  clear hX2 hk hb2 hb g1 g2 g3 hE1 HB HC HQ HX a0 a1 a2 a3 a4 a5 a6 a7 a8 a9 a10 a11
  go_wp2_with fail
  rw [HX2.out]
  clear y1 b0 f0 b1 f1 b2 f2 b3 f3 b4 f4 b5 f5 b6 f6 b7 f7 b8 f8 b9 f9 b10 f10 b11 f11
  refine (begins_ok X2 _ _ _ _ _ _ HG1.out HQ2.out).mono ?_
  intro e X3 hbeg
  obtain ⟨rfl, hE3⟩ := hbeg.no HN.out
  have HB3 := hid (HB2.out.keep hE3 id)
  have HG1' := hid (HG1.out.ext ESt.ok hE3)
  have HG2' := hid (HG2.out.ext EVal.ok hE3)
  have HG3' := hid (HG3.out.ext EField.ok hE3)
  have HE3 := hid (HE2.out.ext hE3)
  clear hbeg hE3 HB2 HG1 HG2 HG3 HC2 HQ2 HE2 HX2
  have b0 := HB3.out.cell 0
  have b1 := HB3.out.cell 1
  have b2 := HB3.out.cell 2
  have b3 := HB3.out.cell 3
  have b4 := HB3.out.cell 4
  have b5 := HB3.out.cell 5
  have b6 := HB3.out.cell 6
  have b7 := HB3.out.cell 7
  have b8 := HB3.out.cell 8
  have b9 := HB3.out.cell 9
  have b10 := HB3.out.cell 10
  have b11 := HB3.out.cell 11
  simp at b0 b1 b2 b3 b4 b5 b6 b7 b8 b9 b10 b11
  have hE4 : Ext X3 (X3.alloc (.cells (cpCells x (.slice Ap2 x.path.length cp2) (.slice Al2 x.v.l.length cl2) (.slice Ao2 x.v.o.length co2)) TCMP)) := (Keep.refl _ _).alloc _
  have hbn : Blk (X3.alloc (.cells (cpCells x (.slice Ap2 x.path.length cp2) (.slice Al2 x.v.l.length cl2) (.slice Ao2 x.v.o.length co2)) TCMP)) X3.heap.size TCMP (cpCells x (.slice Ap2 x.path.length cp2) (.slice Al2 x.v.l.length cl2) (.slice Ao2 x.v.o.length co2)) := Blk.new _ _ _
  have HF := hid (And.intro hbn hE4)
  clear hbn hE4
  go_wp2
  go_ret
  exact ⟨_, _, _, _, rfl, HF.out.1, (HG1'.out.ext ESt.ok HF.out.2).more ESt.ok fun k _ h => by omega, (HG2'.out.ext EVal.ok HF.out.2).more EVal.ok fun k _ h => by omega, (HG3'.out.ext EField.ok HF.out.2).more EField.ok fun k _ h => by omega, HE3.out.ext HF.out.2⟩
end Go.Proofs.YtioplgfopillnaaDoor

/- The reference's Same at like components; how much acts weigh. -/
set_option linter.unusedSimpArgs false
set_option linter.unusedVariables false
namespace Go.Proofs.YtioplgfopillnaaDoor
open Go.RowKit
set_option linter.unusedVariables false

theorem rsame03_yes (w : World) (S S2 : BS) (u v : Value) (p : List St) (h1 : Sl ESt w S u p) (h2 : Sl ESt w S2 v p) :
    Calls Tryd.prog 37 #[u, v] w fun e w' => e = .returned (.bool true) ∧ Ext w w' := by
  obtain ⟨A, c, rfl, _⟩ := h1.shape
  obtain ⟨B, d, rfl, _⟩ := h2.shape
  have H1 := hid h1
  have H2 := hid h2
  have hll : ((p.length : Int) == (p.length : Int)) = true := by simp
  clear h1 h2
  go_enter Tryd.func37, Tryd.ntmps37
  go_wp2_with fail
  refine (rbegins_ok w _ _ _ _ p p H1.out H2.out).mono ?_
  intro e w1 h
  obtain ⟨rfl, hE⟩ := h.yes (List.prefix_refl p)
  have HE := hid hE
  clear hE h
  go_wp2
  go_ret
  exact ⟨rfl, HE.out⟩
set_option maxRecDepth 20000 in
set_option maxHeartbeats 3200000 in
theorem rsame06_yes (w : World) (S S2 : BS) (u t : Value) (x : Cp) (hx : CAt w S u x) (hy : CAt w S2 t x) :
    Calls Tryd.prog 15 #[u, t] w fun e w' => e = .returned (.bool true) ∧ Ext w w' := by
  obtain ⟨pv, lv, ov, rfl, h1, h2, h3⟩ := hx
  obtain ⟨Ap, cp, rfl, _⟩ := h1.shape
  obtain ⟨Al, cl, rfl, _⟩ := h2.shape
  obtain ⟨Ao, co, rfl, _⟩ := h3.shape
  obtain ⟨qv, mv, nv, rfl, k1, k2, k3⟩ := hy
  obtain ⟨Bp, dp, rfl, _⟩ := k1.shape
  obtain ⟨Bl, dl, rfl, _⟩ := k2.shape
  obtain ⟨Bo, do_, rfl, _⟩ := k3.shape
  obtain ⟨W, hW⟩ : ∃ W, (w.alloc (.cells (cpCells x (.slice Ap x.path.length cp) (.slice Al x.v.l.length cl) (.slice Ao x.v.o.length co)) TCMP)).alloc (.cells (cpCells x (.slice Bp x.path.length dp) (.slice Bl x.v.l.length dl) (.slice Bo x.v.o.length do_)) TCMP) = W := ⟨_, rfl⟩
  have hE : Ext w W := by rw [← hW]; exact ((Keep.refl _ _).alloc _).alloc _
  have hb : Blk W w.heap.size TCMP (cpCells x (.slice Ap x.path.length cp) (.slice Al x.v.l.length cl) (.slice Ao x.v.o.length co)) := by rw [← hW]; exact (Blk.new _ _ _).alloc _
  have hc : Blk W (w.heap.size + 1) TCMP (cpCells x (.slice Bp x.path.length dp) (.slice Bl x.v.l.length dl) (.slice Bo x.v.o.length do_)) := by
    have := Blk.new (w.alloc (.cells (cpCells x (.slice Ap x.path.length cp) (.slice Al x.v.l.length cl) (.slice Ao x.v.o.length co)) TCMP)) TCMP (cpCells x (.slice Bp x.path.length dp) (.slice Bl x.v.l.length dl) (.slice Bo x.v.o.length do_))
    rw [World.size_alloc, hW] at this
    exact this
  have HP1 := hid (h1.ext ESt.ok hE)
  have HP2 := hid (k1.ext ESt.ok hE)
  have HV1 := hid (show VAt W S (.agg #[U8 x.v.kind, .int .i64 x.v.n, .string x.v.s, .slice Al x.v.l.length cl, .slice Ao x.v.o.length co]) x.v from VAt.ext ⟨_, _, rfl, h2, h3⟩ hE)
  have HV2 := hid (show VAt W S2 (.agg #[U8 x.v.kind, .int .i64 x.v.n, .string x.v.s, .slice Bl x.v.l.length dl, .slice Bo x.v.o.length do_]) x.v from VAt.ext ⟨_, _, rfl, k2, k3⟩ hE)
  have HE := hid hE
  have HB := hid hb
  have HC := hid hc
  have a0 := hb.cell 0
  have b0 := hc.cell 0
  have a1 := hb.cell 1
  have b1 := hc.cell 1
  have a2 := hb.cell 2
  have b2 := hc.cell 2
  have a3 := hb.cell 3
  have b3 := hc.cell 3
  have a4 := hb.cell 4
  have b4 := hc.cell 4
  have a5 := hb.cell 5
  have b5 := hc.cell 5
  have a6 := hb.cell 6
  have b6 := hc.cell 6
  have a7 := hb.cell 7
  have b7 := hc.cell 7
  have a8 := hb.cell 8
  have b8 := hc.cell 8
  have a9 := hb.cell 9
  have b9 := hc.cell 9
  have a10 := hb.cell 10
  have b10 := hc.cell 10
  have a11 := hb.cell 11
  have b11 := hc.cell 11
  simp at a0 b0 a1 b1 a2 b2 a3 b3 a4 b4 a5 b5 a6 b6 a7 b7 a8 b8 a9 b9 a10 b10 a11 b11
  have q0 : (x.key.toList == x.key.toList) = true := by simp
  have q1 : (x.s.toList == x.s.toList) = true := by simp
  clear h1 h2 h3 k1 k2 k3 hE hb hc
  go_enter Tryd.func15, Tryd.ntmps15
  go_wp2_with fail
  refine (same_eq _ x.v (Nat.le_refl _) _ _ _ _ W HV1.out HV2.out).mono ?_
  rintro e w1 ⟨rfl, hE1⟩
  have HE1 := hid (HE.out.ext hE1)
  have HP1' := hid (HP1.out.ext ESt.ok hE1)
  have HP2' := hid (HP2.out.ext ESt.ok hE1)
  replace a1 := (hE1.cell (lt_of_cell a1) id).trans a1
  replace b1 := (hE1.cell (lt_of_cell b1) id).trans b1
  clear hE1 hW
  go_wp2_with fail
  refine (rsame03_yes w1 _ _ _ _ x.path HP1'.out HP2'.out).mono ?_
  rintro e w2 ⟨rfl, hE2⟩
  have HE2 := hid (HE1.out.ext hE2)
  clear hE2
  go_wp2
  go_ret
  exact ⟨rfl, HE2.out⟩
/-- An act as an element. -/
def EAc : El Ac := { size := 7, rd := fun w S cs a => ∃ pv vv, cs = [pv, U8 a.kind, .int .i64 a.i, .int .i64 a.j, .int .i64 a.n, .string a.s, vv] ∧ BytesS w S pv a.path ∧ Sl ETok w S vv a.v }
theorem EAc.ok : EAc.Ok where
  pos := by decide
  len := fun ⟨_, _, h, _⟩ => by subst h; rfl
  one := fun ⟨pv, vv, h, h1, h2⟩ u hu => by
    subst h
    obtain ⟨A, c, rfl, _⟩ := h1.shape
    obtain ⟨B, d, rfl, _⟩ := h2.shape
    simp at hu
    rcases hu with rfl | rfl | rfl | rfl | rfl | rfl | rfl <;> rfl
  keep := fun ⟨pv, vv, h, h1, h2⟩ hk hF => ⟨pv, vv, h, h1.keep EU8.ok hk hF, h2.keep ETok.ok hk hF⟩
  more := fun ⟨pv, vv, h, h1, h2⟩ hS => ⟨pv, vv, h, h1.more EU8.ok fun k hk => hS k hk, h2.more ETok.ok fun k hk => hS k hk⟩
end Go.Proofs.YtioplgfopillnaaDoor

/- law07: heavy. -/
set_option linter.unusedSimpArgs false
set_option linter.unusedVariables false
namespace Go.Proofs.YtioplgfopillnaaDoor
open Go.RowKit
set_option linter.unusedVariables false

end Go.Proofs.YtioplgfopillnaaDoor

/- seq: small functions by contract: known, below, upto, At. -/
set_option linter.unusedSimpArgs false
set_option linter.unusedVariables false
namespace Go.Proofs.YtioplgfopillnaaDoor
open Go.RowKit
set_option linter.unusedVariables false

/-- A component's value; what lies behind the opaque cells does not matter here. -/
abbrev cmpV (k : Value) (p key : Value) (i j : Int) (nn v0 v1 v2 v3 v4 s : Value) : Value := .agg #[k, p, key, .int .i64 i, .int .i64 j, nn, v0, v1, v2, v3, v4, s]
def knownL (k : UInt8) : Bool := k == 4 || k == 5 || k == 6 || k == 7
def bl (a b : Int) : Int := if a < b then 1 else 0
def up (a b : Int) (same : Bool) : Int := if a = b ∧ same = true then 1 else bl a b
theorem bl_bd (a b : Int) : 0 ≤ bl a b ∧ bl a b ≤ 1 := by unfold bl; split <;> omega
theorem up_bd (a b : Int) (s : Bool) : 0 ≤ up a b s ∧ up a b s ≤ 1 := by unfold up; split; omega; exact bl_bd a b

/-- One of the four kinds, or another one. -/
theorem kind_cases (k : UInt8) : k = 4 ∨ k = 5 ∨ k = 6 ∨ k = 7 ∨ (knownL k = false ∧ ((k.toNat : Int) == 4) = false ∧ ((k.toNat : Int) == 5) = false ∧ ((k.toNat : Int) == 6) = false ∧ ((k.toNat : Int) == 7) = false) := by
  by_cases h4 : k = 4
  · exact .inl h4
  by_cases h5 : k = 5
  · exact .inr (.inl h5)
  by_cases h6 : k = 6
  · exact .inr (.inr (.inl h6))
  by_cases h7 : k = 7
  · exact .inr (.inr (.inr (.inl h7)))
  have hn : ∀ n : Nat, n < 256 → k ≠ UInt8.ofNat n → ((k.toNat : Int) == (n : Int)) = false := fun n hn h => by
    simp only [beq_eq_false_iff_ne, ne_eq]
    intro e
    apply h
    apply UInt8.toNat.inj
    simp; omega
  exact .inr (.inr (.inr (.inr ⟨by simp [knownL, h4, h5, h6, h7], hn 4 (by omega) h4, hn 5 (by omega) h5, hn 6 (by omega) h6, hn 7 (by omega) h7⟩)))

set_option maxHeartbeats 800000 in
theorem known_any (k : UInt8) (p key nn v0 v1 v2 v3 v4 s : Value) (i j : Int) (w : World) :
    Calls Tryd.prog 81 #[cmpV (U8 k) p key i j nn v0 v1 v2 v3 v4 s] w fun e w' => e = .returned (.bool (knownL k)) ∧ Ext w w' := by
  rcases kind_cases k with rfl | rfl | rfl | rfl | ⟨h0, h4, h5, h6, h7⟩
  all_goals
    go_enter Tryd.func81, Tryd.ntmps81
    go_wp2
    go_ret
    exact ⟨by first | rfl | (rw [h0]; rfl), (Keep.refl _ _).alloc _⟩
theorem below_any (a b : Int) (w : World) : Calls Tryd.prog 80 #[.int .i64 a, .int .i64 b] w fun e w' => e = .returned (.int .i64 (bl a b)) ∧ w = w' := by
  unfold bl
  by_cases h : a < b
  all_goals
    go_enter Tryd.func80, Tryd.ntmps80
    go_wp2
    go_ret
    exact ⟨by simp [h], rfl⟩
theorem upto_any (a b : Int) (s : Bool) (w : World) : Calls Tryd.prog 79 #[.int .i64 a, .int .i64 b, .bool s] w fun e w' => e = .returned (.int .i64 (up a b s)) ∧ w = w' := by
  by_cases h : a = b
  · subst h
    have hb : (a == a) = true := by simp
    cases s
    all_goals
      go_enter Tryd.func79, Tryd.ntmps79
      go_wp2_with (go_at_call 80; refine (below_any _ _ _).mono ?_; rintro e w' ⟨rfl, rfl⟩)
      go_ret
      exact ⟨by simp [up, bl], rfl⟩
  · have hb : (a == b) = false := by simpa using h
    cases s
    all_goals
      go_enter Tryd.func79, Tryd.ntmps79
      go_wp2_with (go_at_call 80; refine (below_any _ _ _).mono ?_; rintro e w' ⟨rfl, rfl⟩)
      go_ret
      exact ⟨by simp [up, h], rfl⟩

/-- Small enough that no sum wraps. -/
def Sm (a : Int) : Prop := -1099511627776 ≤ a ∧ a ≤ 1099511627776

def atL (k : UInt8) (ci cj i : Int) : Int × Bool :=
  if k = 4 then (i + up ci i true, true)
  else if k = 7 ∧ ci = i then (cj, true)
  else if k = 7 then (i - bl ci i + up cj (i - bl ci i) true, true)
  else if (k = 5 ∨ k = 6) ∧ ci = i then (0, false)
  else if k = 5 then (i - bl ci i, true)
  else (i, true)

set_option maxHeartbeats 1600000 in
theorem at_any (k : UInt8) (p key nn v0 v1 v2 v3 v4 s : Value) (ci cj i : Int) (w : World) (hi : Sm i) (hci : Sm ci) (hcj : Sm cj) :
    Calls Tryd.prog 56 #[.int .i64 i, cmpV (U8 k) p key ci cj nn v0 v1 v2 v3 v4 s] w fun e w' => e = .returned (.tuple #[.int .i64 (atL k ci cj i).1, .bool (atL k ci cj i).2]) ∧ Ext w w' := by
  obtain ⟨hi1, hi2⟩ := hi
  obtain ⟨hci1, hci2⟩ := hci
  obtain ⟨hcj1, hcj2⟩ := hcj
  have hu1 := up_bd ci i true
  have hb1 := bl_bd ci i
  have hu2 := up_bd cj (i - bl ci i) true
  by_cases he : ci = i
  · have he' : (ci == i) = true := by simpa using he
    have he2 : (i == i) = true := by simp
    rcases kind_cases k with rfl | rfl | rfl | rfl | ⟨h0, h4, h5, h6, h7⟩
    case' inr.inr.inr.inr => have HK := hid (show k ≠ 4 ∧ k ≠ 5 ∧ k ≠ 6 ∧ k ≠ 7 from by simp [knownL] at h0; exact ⟨h0.1.1.1, h0.1.1.2, h0.1.2, h0.2⟩)
    all_goals
      subst he
      go_enter Tryd.func56, Tryd.ntmps56
      go_wp2_with (first | (go_at_call 80; refine (below_any _ _ _).mono ?_; rintro e w' ⟨rfl, rfl⟩) | (go_at_call 79; refine (upto_any _ _ _ _).mono ?_; rintro e w' ⟨rfl, rfl⟩))
      go_ret2
      first | (obtain ⟨k4, k5, k6, k7⟩ := HK.out; exact ⟨by simp [atL, k4, k5, k6, k7], (Keep.refl _ _).alloc _⟩) | exact ⟨by simp [atL], (Keep.refl _ _).alloc _⟩
  · have he' : (ci == i) = false := by simpa using he
    have HNE := hid he
    clear he
    rcases kind_cases k with rfl | rfl | rfl | rfl | ⟨h0, h4, h5, h6, h7⟩
    case' inr.inr.inr.inr => have HK := hid (show k ≠ 4 ∧ k ≠ 5 ∧ k ≠ 6 ∧ k ≠ 7 from by simp [knownL] at h0; exact ⟨h0.1.1.1, h0.1.1.2, h0.1.2, h0.2⟩)
    all_goals
      go_enter Tryd.func56, Tryd.ntmps56
      go_wp2_with (first | (go_at_call 80; refine (below_any _ _ _).mono ?_; rintro e w' ⟨rfl, rfl⟩) | (go_at_call 79; refine (upto_any _ _ _ _).mono ?_; rintro e w' ⟨rfl, rfl⟩))
      go_ret2
      first | (obtain ⟨k4, k5, k6, k7⟩ := HK.out; exact ⟨by simp [atL, HNE.out, k4, k5, k6, k7], (Keep.refl _ _).alloc _⟩) | exact ⟨by simp [atL, HNE.out], (Keep.refl _ _).alloc _⟩
end Go.Proofs.YtioplgfopillnaaDoor
