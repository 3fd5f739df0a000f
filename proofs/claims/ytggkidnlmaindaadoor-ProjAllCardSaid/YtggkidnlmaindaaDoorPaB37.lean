/- EntD, TurnS, ProjH, ProjI, ProjN, ProjO, ProjL, ProjM, LawRaw: laid together. -/
import Derived.Test.YtggkidnlmaindaaDoorPaB36
import Derived.Test.YtggkidnlmaindaaDoorPaB21
import Derived.Test.YtggkidnlmaindaaDoorPaB23
import Derived.Test.YtggkidnlmaindaaDoorPaB35
import Derived.Test.YtggkidnlmaindaaDoorPaB8
import Derived.Test.YtggkidnlmaindaaDoorPaB6
import Derived.Test.YtggkidnlmaindaaDoorPaB7
import Derived.Test.YtggkidnlmaindaaDoorPaB18
import Derived.Test.YtggkidnlmaindaaDoorPaB13
set_option linter.unusedSimpArgs false
set_option linter.unusedVariables false
set_option maxHeartbeats 25600000
set_option maxRecDepth 20000
namespace Go.Proofs.YtggkidnlmaindaaDoor
open Go.RowKit
theorem rsame10_kd (kd : Int) (w : World) (S1 S2 S3 S4 : BS) (c1 c2 : Int) (x : V) (cs : List Cp) (lv1 ov1 op1 lv2 ov2 op2 : Value) (h1 : VAt w S1 (.agg #[U8 x.kind, .int .i64 x.n, .string x.s, lv1, ov1]) x) (h2 : VAt w S2 (.agg #[U8 x.kind, .int .i64 x.n, .string x.s, lv2, ov2]) x) (h3 : Sl ECp w S3 op1 cs) (h4 : Sl ECp w S4 op2 cs) :
  Calls Tryd.prog 23 #[.agg #[.int .u8 kd, .int .u32 c1, .int .u32 c2, U8 x.kind, .int .i64 x.n, .string x.s, lv1, ov1, op1], .agg #[.int .u8 kd, .int .u32 c1, .int .u32 c2, U8 x.kind, .int .i64 x.n, .string x.s, lv2, ov2, op2]] w fun e w' => e = .returned (.bool true) ∧ Ext w w' := by
 obtain ⟨lx, ox, e, k1, k2⟩ := h1
 simp at e
 obtain ⟨rfl, rfl⟩ := e
 obtain ⟨ly, oy, e, k3, k4⟩ := h2
 simp at e
 obtain ⟨rfl, rfl⟩ := e
 obtain ⟨Al, cl, rfl, _⟩ := k1.shape
 obtain ⟨Ao, co, rfl, _⟩ := k2.shape
 obtain ⟨Bl, dl, rfl, _⟩ := k3.shape
 obtain ⟨Bo, do_, rfl, _⟩ := k4.shape
 obtain ⟨A, c, rfl, _⟩ := h3.shape
 obtain ⟨B, d, rfl, _⟩ := h4.shape
 obtain ⟨W, hW⟩ : ∃ W, (w.alloc (.cells #[.int .u8 kd, .int .u32 c1, .int .u32 c2, U8 x.kind, .int .i64 x.n, .string x.s, .slice Al x.l.length cl, .slice Ao x.o.length co, .slice A cs.length c] TENT)).alloc (.cells #[.int .u8 kd, .int .u32 c1, .int .u32 c2, U8 x.kind, .int .i64 x.n, .string x.s, .slice Bl x.l.length dl, .slice Bo x.o.length do_, .slice B cs.length d] TENT) = W := ⟨_, rfl⟩
 have hE : Ext w W := by rw [← hW]; exact ((Keep.refl _ _).alloc _).alloc _
 have ha : Blk W w.heap.size TENT #[.int .u8 kd, .int .u32 c1, .int .u32 c2, U8 x.kind, .int .i64 x.n, .string x.s, .slice Al x.l.length cl, .slice Ao x.o.length co, .slice A cs.length c] := by rw [← hW]; exact (Blk.new _ _ _).alloc _
 have hb : Blk W (w.heap.size + 1) TENT #[.int .u8 kd, .int .u32 c1, .int .u32 c2, U8 x.kind, .int .i64 x.n, .string x.s, .slice Bl x.l.length dl, .slice Bo x.o.length do_, .slice B cs.length d] := by
  have := Blk.new (w.alloc (.cells #[.int .u8 kd, .int .u32 c1, .int .u32 c2, U8 x.kind, .int .i64 x.n, .string x.s, .slice Al x.l.length cl, .slice Ao x.o.length co, .slice A cs.length c] TENT)) TENT #[.int .u8 kd, .int .u32 c1, .int .u32 c2, U8 x.kind, .int .i64 x.n, .string x.s, .slice Bl x.l.length dl, .slice Bo x.o.length do_, .slice B cs.length d]
  rw [World.size_alloc, hW] at this
  exact this
 have HV1 := hid (show VAt W S1 (.agg #[U8 x.kind, .int .i64 x.n, .string x.s, .slice Al x.l.length cl, .slice Ao x.o.length co]) x from ⟨_, _, rfl, k1.ext EVal.ok hE, k2.ext EField.ok hE⟩)
 have HV2 := hid (show VAt W S2 (.agg #[U8 x.kind, .int .i64 x.n, .string x.s, .slice Bl x.l.length dl, .slice Bo x.o.length do_]) x from ⟨_, _, rfl, k3.ext EVal.ok hE, k4.ext EField.ok hE⟩)
 have HO1 := hid (h3.ext ECp.ok hE)
 have HO2 := hid (h4.ext ECp.ok hE)
 have HE := hid hE
 have HA := hid ha
 have HB := hid hb
 have e0 : (kd == kd) = true := by simp
 have e1 : (c1 == c1) = true := by simp
 have e2 : (c2 == c2) = true := by simp
 have x0 := ha.cell 0
 have x1 := ha.cell 1
 have x2 := ha.cell 2
 have x3 := ha.cell 3
 have x4 := ha.cell 4
 have x5 := ha.cell 5
 have x6 := ha.cell 6
 have x7 := ha.cell 7
 have x8 := ha.cell 8
 simp at x0 x1 x2 x3 x4 x5 x6 x7 x8
 have y0 := hb.cell 0
 have y1 := hb.cell 1
 have y2 := hb.cell 2
 have y3 := hb.cell 3
 have y4 := hb.cell 4
 have y5 := hb.cell 5
 have y6 := hb.cell 6
 have y7 := hb.cell 7
 have y8 := hb.cell 8
 simp at y0 y1 y2 y3 y4 y5 y6 y7 y8
 clear k1 k2 k3 k4 h3 h4 hE ha hb
 go_enter Tryd.func23, Tryd.ntmps23
 go_wp2_with fail
 refine (same_eq _ x (Nat.le_refl _) _ _ _ _ _ HV1.out HV2.out).mono ?_
 rintro e w2 ⟨rfl, hE2⟩
 have ha := HA.out.keep hE2 id
 have hb := HB.out.keep hE2 id
 have HE2 := hid (HE.out.ext hE2)
 have HO12 := hid (HO1.out.ext ECp.ok hE2)
 have HO22 := hid (HO2.out.ext ECp.ok hE2)
 clear hE2 hW x0 y0 x1 y1 x2 y2 x3 y3 x4 y4 x5 y5 x6 y6 x7 y7 x8 y8
 have x0 := ha.cell 0
 have x1 := ha.cell 1
 have x2 := ha.cell 2
 have x3 := ha.cell 3
 have x4 := ha.cell 4
 have x5 := ha.cell 5
 have x6 := ha.cell 6
 have x7 := ha.cell 7
 have x8 := ha.cell 8
 simp at x0 x1 x2 x3 x4 x5 x6 x7 x8
 have y0 := hb.cell 0
 have y1 := hb.cell 1
 have y2 := hb.cell 2
 have y3 := hb.cell 3
 have y4 := hb.cell 4
 have y5 := hb.cell 5
 have y6 := hb.cell 6
 have y7 := hb.cell 7
 have y8 := hb.cell 8
 simp at y0 y1 y2 y3 y4 y5 y6 y7 y8
 clear ha hb
 go_wp2_with fail
 refine (rsame7_ok _ _ _ _ _ cs HO12.out HO22.out).mono ?_
 rintro e w3 ⟨rfl, hE3⟩
 go_wp2
 go_ret
 exact ⟨rfl, HE2.out.ext hE3⟩
theorem rsame10_ok (w : World) (S1 S2 S3 S4 : BS) (c1 c2 : Int) (x : V) (cs : List Cp) (lv1 ov1 op1 lv2 ov2 op2 : Value) (h1 : VAt w S1 (.agg #[U8 x.kind, .int .i64 x.n, .string x.s, lv1, ov1]) x) (h2 : VAt w S2 (.agg #[U8 x.kind, .int .i64 x.n, .string x.s, lv2, ov2]) x) (h3 : Sl ECp w S3 op1 cs) (h4 : Sl ECp w S4 op2 cs) :
  Calls Tryd.prog 23 #[.agg #[.int .u8 2, .int .u32 c1, .int .u32 c2, U8 x.kind, .int .i64 x.n, .string x.s, lv1, ov1, op1], .agg #[.int .u8 2, .int .u32 c1, .int .u32 c2, U8 x.kind, .int .i64 x.n, .string x.s, lv2, ov2, op2]] w fun e w' => e = .returned (.bool true) ∧ Ext w w' := rsame10_kd 2 w S1 S2 S3 S4 c1 c2 x cs lv1 ov1 op1 lv2 ov2 op2 h1 h2 h3 h4
theorem rcopy6 (w : World) (S : BS) (u : Value) (c : Cp) (h : CAt w S u c) (hp : c.path.length ≤ 1000) (hv : c.v.size ≤ 1000000) :
  Calls Tryd.prog 29 #[u] w fun e w' => CopyO w c e w' := by
 obtain ⟨pv, lv, ov, rfl, h1, h2, h3⟩ := h.cut
 obtain ⟨Ap, cp, rfl, hpl, hpm⟩ := h1.shape
 obtain ⟨Al, cl, rfl, hll, hlm⟩ := h2.shape
 obtain ⟨Ao, co, rfl, hol, hom⟩ := h3.shape
 obtain ⟨W, hW⟩ : ∃ W, (w.alloc (.cells (cpCells c (.slice Ap c.path.length cp) (.slice Al c.v.l.length cl) (.slice Ao c.v.o.length co)) TCMP)) = W := ⟨_, rfl⟩
 have hE : Ext w W := by rw [← hW]; exact (Keep.refl _ _).alloc _
 have hb : Blk W w.heap.size TCMP (cpCells c (.slice Ap c.path.length cp) (.slice Al c.v.l.length cl) (.slice Ao c.v.o.length co)) := by rw [← hW]; exact Blk.new _ _ _
 obtain ⟨W2, hW2⟩ : ∃ W2, W.alloc (.cells ZCMP TCMP) = W2 := ⟨_, rfl⟩
 have hE2 : Ext W W2 := by rw [← hW2]; exact (Keep.refl _ _).alloc _
 have hr : Blk W2 W.heap.size TCMP ZCMP := by rw [← hW2]; exact Blk.new _ _ _
 have hb2 := hb.keep hE2 id
 have p1 := hb2.cell 1
 simp at p1
 have hsz : W.heap.size = w.heap.size + 1 := by rw [← hW]; simp
 have hsz2 : W2.heap.size = W.heap.size + 1 := by rw [← hW2]; simp
 have H1 := hid ((h1.ext ESt.ok hE).ext ESt.ok hE2)
 have HV := hid (show VAt W2 (fun k => S k ∧ k < w.heap.size) (.agg #[U8 c.v.kind, .int .i64 c.v.n, .string c.v.s, .slice Al c.v.l.length cl, .slice Ao c.v.o.length co]) c.v from ⟨_, _, rfl, (h2.ext EVal.ok hE).ext EVal.ok hE2, (h3.ext EField.ok hE).ext EField.ok hE2⟩)
 have HB := hid hb2
 have HR := hid hr
 have HE := hid (hE.ext hE2)
 have HSZ := hid hsz
 have HSZ2 := hid hsz2
 rw [hsz] at hr
 clear h1 h2 h3 hb hE h hE2 hb2 hr hsz hsz2
 go_enter Tryd.func29, Tryd.ntmps29
 go_wp2_with (at_builtin; refine wpList_own_append (v := .slice none 0 0) (y := .slice Ap c.path.length cp) (xs := []) (ys := c.path) (base := W2.heap.size) (S := fun _ => False) _ rfl (.tmp 4) (.tmp 6) ESt.ok ty_st rfl rfl rfl (Own.nil _ _ _ _) H1.out ?c1 ?c2 ?c3 ?c4 ?_)
 case c1 => intro g hg; cases hg
 case c2 => simp; omega
 case c3 => simp [maxLen]; omega
 case c4 => exact Nat.le_refl _
 intro v4 w1 hown hk1 hb1
 have hown : Own ESt w1 W2.heap.size TSTEP (fun _ => False) v4 c.path := own_stF hown
 obtain ⟨A2, c2, rfl, hlc2, hcm2⟩ := hown.shape
 have hE1 : Ext W2 w1 := hk1.mono fun k _ h => by cases h
 have hb := HB.out.keep hE1 id
 have hr := HR.out.keep hE1 id
 have hbz : w.heap.size < W.heap.size := by have := HSZ.out; omega
 have f1 := hb.frozen 1
 have y1 := hb.cell 1
 simp at y1
 obtain ⟨X1, hX1⟩ : ∃ X1, w1.setCell ⟨w.heap.size, 1, none⟩ (.slice A2 c.path.length c2) = X1 := ⟨_, rfl⟩
 have hk1 : Keep (· = w.heap.size) w1 X1 := by rw [← hX1]; exact (Keep.refl (· = w.heap.size) w1).set1 1 _
 have hx1 : Blk X1 w.heap.size TCMP (cpCells c (.slice A2 c.path.length c2) (.slice Al c.v.l.length cl) (.slice Ao c.v.o.length co)) := by
  rw [← hX1]
  exact hb.set_ 1 (.slice A2 c.path.length c2)
 have hr1 : Blk X1 W.heap.size TCMP ZCMP := hr.keep hk1 (by omega)
 have v0 := hx1.cell 6
 have v1 := hx1.cell 7
 have v2 := hx1.cell 8
 have v3 := hx1.cell 9
 have v4 := hx1.cell 10
 simp at v0 v1 v2 v3 v4
 have HX1 := hid hx1
 have HRX := hid hr1
 have HX := hid hX1
 have hEX : Ext w X1 := (HE.out.ext hE1).trans hk1 fun k hk e => by omega
 have HEX := hid hEX
 have hs1 := hE1.size
 have hs2 := HSZ2.out
 have HO1 := hid (hown.keep ESt.ok hk1 (fun _ h => h.elim) fun g e h => by have := (hown.lt e).1; omega)
 have HV1 := hid ((HV.out.ext hE1).keep hk1 fun k h e => by omega)
 clear hown hb1 hE1 hb hr hk1 hx1 hr1 hEX HV H1 hs1 hs2
 go_wp2_with fail
 refine (rcopy_any _ c.v (Nat.le_refl _) hv _ _ _ HV1.out).mono ?_
 intro e X2 hcp
 obtain ⟨A5, m5, B5, k5, rfl, hrows, hE3⟩ := hcp.rows
 have HRW := hid hrows
 have HE3 := hid hE3
 have hb := HX1.out.keep hE3 id
 have hr := HRX.out.keep hE3 id
 have f6 := hb.frozen 6
 have f7 := hb.frozen 7
 have f8 := hb.frozen 8
 have f9 := hb.frozen 9
 have f10 := hb.frozen 10
 have y6 := hb.cell 6
 have y7 := hb.cell 7
 have y8 := hb.cell 8
 have y9 := hb.cell 9
 have y10 := hb.cell 10
 simp at y6 y7 y8 y9 y10
 obtain ⟨X3, hX3⟩ : ∃ X3, (((((X2.setCell ⟨w.heap.size, 6, none⟩ (.int .u8 (c.v.kind.toNat : Int))).setCell ⟨w.heap.size, 7, none⟩ (.int .i64 c.v.n)).setCell ⟨w.heap.size, 8, none⟩ (.string c.v.s)).setCell ⟨w.heap.size, 9, none⟩ (.slice A5 c.v.l.length m5)).setCell ⟨w.heap.size, 10, none⟩ (.slice B5 c.v.o.length k5)) = X3 := ⟨_, rfl⟩
 have hk3 : Keep (· = w.heap.size) X2 X3 := by
  rw [← hX3]
  exact (((((Keep.refl (· = w.heap.size) X2).set1 6 _).set1 7 _).set1 8 _).set1 9 _).set1 10 _
 have hx3 : Blk X3 w.heap.size TCMP (cpCells c (.slice A2 c.path.length c2) (.slice A5 c.v.l.length m5) (.slice B5 c.v.o.length k5)) := by
  rw [← hX3]
  exact ((((hb.set_ 6 (U8 c.v.kind)).set_ 7 (.int .i64 c.v.n)).set_ 8 (.string c.v.s)).set_ 9 (.slice A5 c.v.l.length m5)).set_ 10 (.slice B5 c.v.o.length k5)
 have hr3 : Blk X3 W.heap.size TCMP ZCMP := hr.keep hk3 (by omega)
 have HX3 := hid hx3
 have HR3 := hid hr3
 have HK3 := hid hk3
 have HXX := hid hX3
 clear hx3 hr3 hk3 hb hr hE3 hrows hcp v0 v1 v2 v3 v4 f1 y1 HX HV1 hX1
 obtain ⟨a0, a1, a2, a3, a4, a5, a6, a7, a8, a9, a10, a11⟩ := sq12 HX3.out
 obtain ⟨z0, z1, z2, z3, z4, z5, z6, z7, z8, z9, z10, z11⟩ := sq12 HR3.out
 obtain ⟨g0, g1, g2, g3, g4, g5, g6, g7, g8, g9, g10, g11⟩ := sqf12 HR3.out
 have hne : w.heap.size ≠ W.heap.size := by omega
 have HK2 := hid (show Keep (· = W.heap.size) X3 ((((((((((((X3.setCell ⟨W.heap.size, 0, none⟩ (.int .u8 (c.kind.toNat : Int))).setCell ⟨W.heap.size, 1, none⟩ (.slice A2 c.path.length c2)).setCell ⟨W.heap.size, 2, none⟩ (.string c.key)).setCell ⟨W.heap.size, 3, none⟩ (.int .i64 c.i)).setCell ⟨W.heap.size, 4, none⟩ (.int .i64 c.j)).setCell ⟨W.heap.size, 5, none⟩ (.int .i64 c.n)).setCell ⟨W.heap.size, 6, none⟩ (.int .u8 (c.v.kind.toNat : Int))).setCell ⟨W.heap.size, 7, none⟩ (.int .i64 c.v.n)).setCell ⟨W.heap.size, 8, none⟩ (.string c.v.s)).setCell ⟨W.heap.size, 9, none⟩ (.slice A5 c.v.l.length m5)).setCell ⟨W.heap.size, 10, none⟩ (.slice B5 c.v.o.length k5)).setCell ⟨W.heap.size, 11, none⟩ (.string c.s)) from (((((((((((((Keep.refl (· = W.heap.size) X3).set1 0 _).set1 1 _).set1 2 _).set1 3 _).set1 4 _).set1 5 _).set1 6 _).set1 7 _).set1 8 _).set1 9 _).set1 10 _).set1 11 _))
 go_wp2
 refine bodyPost_ret (v := .agg (cpCells c (.slice A2 c.path.length c2) (.slice A5 c.v.l.length m5) (.slice B5 c.v.o.length k5))) (by simp [results, Tryd.results29, go_sem, z0, z1, z2, z3, z4, z5, z6, z7, z8, z9, z10, z11]) rfl ?_
 have hs2 := HSZ2.out
 have hrw := HRW.out
 have hl2 := (hrw.l.sl EVal.ok).more (S' := fun k => X1.heap.size ≤ k) EVal.ok fun k _ h => by
  rcases h with h | h
  ·exact h.1
  ·exact (hrw.l.lt h).1
 have ho2 := (hrw.o.sl EField.ok).more (S' := fun k => X1.heap.size ≤ k) EField.ok fun k _ h => by
  rcases h with h | h
  ·exact h.1
  ·exact (hrw.o.lt h).1
 have hxs := HEX.out.size
 have hx1 := HX1.out.lt
 have hr1 := HRX.out.lt
 have hx2 := HE3.out.size
 have hx3 := HK3.out.size
 refine ⟨_, _, _, rfl, (((HO1.out.ext ESt.ok HE3.out).keep ESt.ok HK3.out (fun _ h => h.elim) fun g e h => ?_).keep ESt.ok HK2.out (fun _ h => h.elim) fun g e h => ?_).less (by omega), ((hl2.keep EVal.ok HK3.out fun k h e => ?_).keep EVal.ok HK2.out fun k h e => ?_).more EVal.ok fun k _ h => ⟨by omega, fun e => ?_⟩, ((ho2.keep EField.ok HK3.out fun k h e => ?_).keep EField.ok HK2.out fun k h e => ?_).more EField.ok fun k _ h => ⟨by omega, fun e => ?_⟩, ((HEX.out.ext HE3.out).trans HK3.out fun k hk e => by omega).trans HK2.out fun k hk e => by omega⟩
 ·have := (HO1.out.lt e).1; omega
 ·have := (HO1.out.lt e).1; omega
 ·omega
 ·omega
 ·have := (HO1.out.lt e).2; omega
 ·omega
 ·omega
 ·have := (HO1.out.lt e).2; omega
def projV (v : V) (fs : List ByteArray) : V := if v.kind = 5 then .mk 5 0 ⟨#[]⟩ [] (v.o.filter fun f => !goes fs f) else .mk 0 0 ⟨#[]⟩ [] []
def ProjIs (w : World) (y : V) (e : Ending) (w' : World) : Prop := ∃ u', e = .returned u' ∧ VAt w' (fun _ => True) u' y ∧ Ext w w'
theorem TV.own {w : World} {a b : Nat} {x0 x1 x2 lv ov : Value} {v : V} (h : TV w v a b [x0, x1, x2, lv, ov]) : ∃ a1, a ≤ a1 ∧ Own EField w a TFIELD (fun q => a1 ≤ q ∧ q < b) ov v.o ∧ ∀ q, ov.ownBlock = some q → a ≤ q ∧ q < a1 ∧ q < b := by
 cases v with
 | mk k n s l o =>
  rw [TV] at h
  obtain ⟨lv', ov', ls, os, a1, a2, e, h1, _, hr, h3, h4⟩ := h
  simp at e
  obtain ⟨_, _, _, _, rfl⟩ := e
  have hl3 := (TVs_le l a1 a2 ls h3).1
  have hl4 := (TFs_le o a2 b os h4).1
  have hc := (rdFs_cells o os).1 (TFs_rd o a2 b os (S := fun q => a1 ≤ q ∧ q < b) (fun q h h' => ⟨by omega, h'⟩) h4)
  refine ⟨a1, h1, ?_, ?_⟩
  ·obtain ⟨h0, ⟨rfl, h⟩ | ⟨g, cap, cur, rfl, q1, q2, q3, q4, q5, q6, q7⟩⟩ := hr
   ·exact .inl ⟨rfl, List.eq_nil_of_length_eq_zero h⟩
   ·exact .inr ⟨g, cap, cur, rfl, q1, q3, q4, q5, q6, by rw [show (V.mk k n s l o).o.length * EField.size = o.length * 6 from rfl, q7]; exact hc⟩
  ·intro q hq
   obtain ⟨h0, ⟨rfl, h⟩ | ⟨g, cap, cur, rfl, q1, q2, q3, q4, q5, q6, q7⟩⟩ := hr
   ·simp [Value.ownBlock] at hq
   ·simp [Value.ownBlock] at hq; subst hq; exact ⟨q1, q2, by omega⟩
theorem set5_full {w : World} {g : Nat} {T : TypeId} {c0 c1 c2 c3 c4 : Value} (h : Blk w g T #[c0, c1, c2, c3, c4]) (a b c d e : Value) : Blk (set5 w g 0 a b c d e) g T #[a, b, c, d, e] := by
 obtain ⟨cur', h1, h2⟩ := set5_blk h 0 a b c d e (by simp)
 have : cur' = #[a, b, c, d, e] := by
  apply Array.toList_inj.1
  simpa using h2
 rw [← this]; exact h1
theorem VAt.fields {w : World} {S : BS} {base : Nat} {ov : Value} {o : List F} (h : Own EField w base TFIELD S ov o) : VAt w (fun _ => True) (.agg #[.int .u8 5, .int .i64 0, .string ⟨#[]⟩, .slice none 0 0, ov]) (.mk 5 0 ⟨#[]⟩ [] o) :=
 ⟨_, _, rfl, Sl.nil _ _, (h.sl EField.ok).more EField.ok fun _ _ _ => trivial⟩
set_option maxRecDepth 100000 in
theorem pval_ok (w : World) (S S2 : BS) (u fv : Value) (v : V) (fs : List ByteArray) (hv : VAt w S u v) (hsz : v.size ≤ 1000000) (hs : Sl EStr w S2 fv fs) :
  Calls Tryd.prog 17 #[u, fv] w (ProjIs w (projV v fs)) := by
 have HV := hid hv
 have HSZ := hid hsz
 have HS := hid (hs.more EStr.ok (S' := fun q => q < w.heap.size) fun k hk _ => hk)
 obtain ⟨lv, ov, rfl, hl, ho⟩ := hv
 obtain ⟨A, c, rfl, hlc, hcm⟩ := hl.shape
 obtain ⟨A', c', rfl, hlc', hcm'⟩ := ho.shape
 obtain ⟨B, d, rfl, _, _⟩ := hs.shape
 clear hl ho hs hsz
 obtain ⟨W0, hW0⟩ : ∃ W0, ((w.alloc (.cells #[U8 v.kind, .int .i64 v.n, .string v.s, .slice A v.l.length c, .slice A' v.o.length c'] TVAL)).alloc (.cells #[.slice B fs.length d] 23)).alloc (.cells #[.int .u8 0, .int .i64 0, .string ⟨#[]⟩, .slice none 0 0, .slice none 0 0] TVAL) = W0 := ⟨_, rfl⟩
 have hE0 : Ext w W0 := by rw [← hW0]; exact (((Keep.refl _ _).alloc _).alloc _).alloc _
 have hb0 : Blk W0 w.heap.size TVAL #[U8 v.kind, .int .i64 v.n, .string v.s, .slice A v.l.length c, .slice A' v.o.length c'] := by rw [← hW0]; exact ((Blk.new _ _ _).alloc _).alloc _
 have hb1 : Blk W0 (w.heap.size + 1) 23 #[.slice B fs.length d] := by
  have := Blk.new (w.alloc (.cells #[U8 v.kind, .int .i64 v.n, .string v.s, .slice A v.l.length c, .slice A' v.o.length c'] TVAL)) 23 #[.slice B fs.length d]
  rw [World.size_alloc] at this
  rw [← hW0]; exact this.alloc _
 have hb2 : Blk W0 (w.heap.size + 1 + 1) TVAL #[.int .u8 0, .int .i64 0, .string ⟨#[]⟩, .slice none 0 0, .slice none 0 0] := by
  have := Blk.new ((w.alloc (.cells #[U8 v.kind, .int .i64 v.n, .string v.s, .slice A v.l.length c, .slice A' v.o.length c'] TVAL)).alloc (.cells #[.slice B fs.length d] 23)) TVAL #[.int .u8 0, .int .i64 0, .string ⟨#[]⟩, .slice none 0 0, .slice none 0 0]
  rw [World.size_alloc, World.size_alloc] at this
  rw [← hW0]; exact this
 have hz0 : W0.heap.size = w.heap.size + 3 := by rw [← hW0]; simp
 have HE0 := hid hE0
 have HB1 := hid hb1
 have HB2 := hid hb2
 have HZ0 := hid hz0
 have p0 := hb0.cell 0
 have p1 := hb0.cell 1
 have p2 := hb0.cell 2
 have p3 := hb0.cell 3
 have p4 := hb0.cell 4
 have z0 := hb2.cell 0
 have z1 := hb2.cell 1
 have z2 := hb2.cell 2
 have z3 := hb2.cell 3
 have z4 := hb2.cell 4
 simp only [List.getElem?_toArray, List.getElem?_cons_succ, List.getElem?_cons_zero] at p0 p1 p2 p3 p4 z0 z1 z2 z3 z4
 have hfz := hb2.frozen
 clear hE0 hb0 hb1 hb2 hz0
 by_cases hk : v.kind = 5
 ·have hkX : ((v.kind.toNat : Int) != 5) = false := by rw [hk]; rfl
  have HK := hid hk
  clear hk hfz z0 z1 z2 z3 z4
  go_enter Tryd.func17, Tryd.ntmps17
  go_wp2_with fail
  clear hW0
  refine (copy_valT 1000000 v HSZ.out (Nat.le_refl _) _ S _ (HV.out.ext HE0.out)).mono ?_
  rintro e w1 ⟨lv1, ov1, rfl, htv, hE1⟩
  obtain ⟨⟨A1, d1, rfl⟩, ⟨A2, d2, rfl⟩⟩ := htv.shapes
  have HTV := hid htv
  have HE1 := hid hE1
  clear htv hE1 p0 p1 p2 p3 p4
  obtain ⟨W3, hW3⟩ : ∃ W3, w1.alloc (.cells #[.int .u8 v.kind.toNat, .int .i64 0, .string ⟨#[]⟩, .slice none 0 0, .slice A2 v.o.length d2] TVAL) = W3 := ⟨_, rfl⟩
  have hE3 : Ext w1 W3 := by rw [← hW3]; exact (Keep.refl _ _).alloc _
  have HT := hid (show Blk W3 w1.heap.size TVAL #[.int .u8 v.kind.toNat, .int .i64 0, .string ⟨#[]⟩, .slice none 0 0, .slice A2 v.o.length d2] from by rw [← hW3]; exact Blk.new _ _ _)
  have HE3 := hid hE3
  have s0 := HT.out.cell 0
  have s1 := HT.out.cell 1
  have s2 := HT.out.cell 2
  have s3 := HT.out.cell 3
  have s4 := HT.out.cell 4
  simp only [List.getElem?_toArray, List.getElem?_cons_succ, List.getElem?_cons_zero] at s0 s1 s2 s3 s4
  clear hE3
  go_wp2_with fail
  clear s0 s1 s2 s3 s4
  obtain ⟨a1, ha1, hown, hq⟩ := HTV.out.own
  have hsz1 := HE1.out.size
  have hsz0 := HZ0.out
  have hB1 := ((HB1.out.keep HE1.out id).keep HE3.out id)
  have hB2 := ((HB2.out.keep HE1.out id).keep HE3.out id)
  have h1 : W3.cell? ⟨w.heap.size + 1, 0, none⟩ = some (.slice B fs.length d) := hB1.cell 0
  refine (delfunc_ok W3 W0.heap.size (fun q => a1 ≤ q ∧ q < w1.heap.size) (fun q => q < w.heap.size) _ v.o (w.heap.size + 1) fs _ (hown.ext EField.ok HE3.out) (fun q h => ⟨by have := hq q h; omega, by have := hq q h; omega, by have := hq q h; omega⟩) h1 (((HS.out.ext EStr.ok HE0.out).ext EStr.ok HE1.out).ext EStr.ok HE3.out)).mono ?_
  rintro e w4 ⟨v', rfl, hown', hqq, hK⟩
  obtain ⟨A3, c3, rfl, _⟩ := hown'.shape
  have HOW := hid hown'
  have HK4 := hid hK
  have hT := HT.out.keep hK (fun h => by have := hq _ h; omega)
  have hR := hB2.keep hK (fun h => by have := hq _ h; omega)
  have HT4 := hid hT
  have HR4 := hid hR
  have HKW := hid (show Keep (fun k => w.heap.size ≤ k) w w4 from ((((Keep.refl (fun k => w.heap.size ≤ k) w).ext HE0.out).ext HE1.out).ext HE3.out).trans hK fun k _ h => by have := hq _ h; omega)
  have HQ := hid (fun q h => hq q (hqq q h))
  have HA1 := hid ha1
  have HS1 := hid hsz1
  have t0 := hT.cell 0
  have t1 := hT.cell 1
  have t2 := hT.cell 2
  have t3 := hT.cell 3
  have t4 := hT.cell 4
  have z0 := hR.cell 0
  have z1 := hR.cell 1
  have z2 := hR.cell 2
  have z3 := hR.cell 3
  have z4 := hR.cell 4
  simp only [List.getElem?_toArray, List.getElem?_cons_succ, List.getElem?_cons_zero] at t0 t1 t2 t3 t4 z0 z1 z2 z3 z4
  have hft := hT.frozen
  have hfz := hR.frozen
  have hne : ¬ w1.heap.size = w.heap.size + 1 + 1 := by omega
  have hne2 : ¬ w.heap.size + 1 + 1 = w1.heap.size := by omega
  clear ha1 hqq hown hq hsz1 hsz0 hB1 hB2 h1 hown' hK hT hR hW3
  go_wp2_with fail
  have HY := hid (show (v.kind.toNat : Int) = 5 by rw [HK.out]; rfl)
  generalize hX : (Value.slice A3 (v.o.filter fun f => !goes fs f).length c3) = X at *
  obtain ⟨Wf, hWf⟩ : ∃ Wf, set5 (w4.setCell ⟨w1.heap.size, 4, none⟩ X) (w.heap.size + 1 + 1) 0 (.int .u8 v.kind.toNat) (.int .i64 0) (.string ⟨#[]⟩) (.slice none 0 0) X = Wf := ⟨_, rfl⟩
  change bodyPost _ _ _ _ _ (set5 (w4.setCell ⟨w1.heap.size, 4, none⟩ X) (w.heap.size + 1 + 1) 0 (.int .u8 v.kind.toNat) (.int .i64 0) (.string ⟨#[]⟩) (.slice none 0 0) X)
  have hka : Keep (· = w1.heap.size) w4 (w4.setCell ⟨w1.heap.size, 4, none⟩ X) := (Keep.refl _ _).set1 4 X
  have hf := set5_full (HR4.out.keep hka hne2) (.int .u8 v.kind.toNat) (.int .i64 0) (.string ⟨#[]⟩) (.slice none 0 0) X
  have hk := set5_keep (w4.setCell ⟨w1.heap.size, 4, none⟩ X) (w.heap.size + 1 + 1) 0 (.int .u8 v.kind.toNat) (.int .i64 0) (.string ⟨#[]⟩) (.slice none 0 0) X
  rw [hWf] at hf hk ⊢
  rw [HY.out] at hf
  have f0 := hf.cell 0
  have f1 := hf.cell 1
  have f2 := hf.cell 2
  have f3 := hf.cell 3
  have f4 := hf.cell 4
  simp only [List.getElem?_toArray, List.getElem?_cons_succ, List.getElem?_cons_zero] at f0 f1 f2 f3 f4
  have hs0 := HZ0.out
  have ha1 := HA1.out
  have hs1 := HS1.out
  have hKW : Ext w Wf := ((HKW.out.trans hka fun k _ h => by omega).trans hk fun k _ h => by omega).mono fun k h1 h2 => by omega
  refine bodyPost_ret (v := .agg #[.int .u8 5, .int .i64 0, .string ⟨#[]⟩, .slice none 0 0, X]) (by simp [results, Tryd.results17, go_sem, f0, f1, f2, f3, f4]) rfl ⟨_, rfl, ?_, hKW⟩
  rw [projV, if_pos HK.out]
  have hoa := HOW.out.keep EField.ok (hka) (fun q h e => by omega) (fun q h e => by have := HQ.out q h; omega)
  exact VAt.fields (hoa.keep EField.ok hk (fun q h e => by omega) (fun q h e => by have := (HOW.out.lt h).1; omega))
 ·have hkX : ((v.kind.toNat : Int) != 5) = true := by
   have : v.kind.toNat ≠ 5 := fun e => hk (UInt8.toNat_inj.1 (by simpa using e))
   simp; omega
  have HK := hid hk
  clear hk
  go_enter Tryd.func17, Tryd.ntmps17
  go_wp2_with fail
  obtain ⟨Wf, hWf⟩ : ∃ Wf, set5 W0 (w.heap.size + 1 + 1) 0 (.int .u8 0) (.int .i64 0) (.string ⟨#[]⟩) (.slice none 0 0) (.slice none 0 0) = Wf := ⟨_, rfl⟩
  change bodyPost _ _ _ _ _ (set5 W0 (w.heap.size + 1 + 1) 0 (.int .u8 0) (.int .i64 0) (.string ⟨#[]⟩) (.slice none 0 0) (.slice none 0 0))
  have hf := set5_full HB2.out (.int .u8 0) (.int .i64 0) (.string ⟨#[]⟩) (.slice none 0 0) (.slice none 0 0)
  have hk := set5_keep W0 (w.heap.size + 1 + 1) 0 (.int .u8 0) (.int .i64 0) (.string ⟨#[]⟩) (.slice none 0 0) (.slice none 0 0)
  rw [hWf] at hf hk ⊢
  have f0 := hf.cell 0
  have f1 := hf.cell 1
  have f2 := hf.cell 2
  have f3 := hf.cell 3
  have f4 := hf.cell 4
  simp only [List.getElem?_toArray, List.getElem?_cons_succ, List.getElem?_cons_zero] at f0 f1 f2 f3 f4
  have hKW : Ext w Wf := (((Keep.refl (fun k => w.heap.size ≤ k) w).ext HE0.out).trans hk fun k _ h => by omega).mono fun k h1 h2 => by omega
  refine bodyPost_ret (v := .agg #[.int .u8 0, .int .i64 0, .string ⟨#[]⟩, .slice none 0 0, .slice none 0 0]) (by simp [results, Tryd.results17, go_sem, f0, f1, f2, f3, f4]) rfl ⟨_, rfl, ?_, hKW⟩
  rw [projV, if_neg HK.out]
  exact ⟨_, _, rfl, Sl.nil _ _, Sl.nil _ _⟩
def fiveKeys : List ByteArray := [⟨#[97]⟩, ⟨#[98]⟩, ⟨#[99]⟩, ⟨#[100]⟩, ⟨#[101]⟩]
theorem psnd_five {ks : List ByteArray} {m : Nat} (h : List.Sublist ks (fiveKeys.take m)) : psnd ks = true := by
 have h5 : List.Sublist ks fiveKeys := h.trans (List.take_sublist _ _)
 have hl : ks.length ≤ 5 := h5.length_le
 have hp : List.Pairwise (fun a b => leB b a = false) fiveKeys := by
  unfold fiveKeys leB
  simp only [ByteArray.toList_eq]
  decide
 have hv : ∀ f ∈ fiveKeys, Lib.validD f.data.toList = true := by
  intro f hf
  apply valid_asc
  refine ⟨fun c hc => ?_, ?_⟩
  ·simp only [fiveKeys, List.mem_cons, List.not_mem_nil, or_false] at hf
   rcases hf with rfl | rfl | rfl | rfl | rfl <;> (simp at hc; subst hc; decide)
  ·simp only [fiveKeys, List.mem_cons, List.not_mem_nil, or_false] at hf
   rcases hf with rfl | rfl | rfl | rfl | rfl <;> decide
 have hpk := hp.sublist h5
 rw [psnd_good fun i hi => ?_, decide_eq_true (by omega)]
 have hi1 : ks[i]? = some (ks[i]'hi) := List.getElem?_eq_getElem hi
 have hvi := hv _ (h5.subset (List.getElem_mem hi))
 cases i with
 | zero => rw [badAt_zero hi1, hvi]; rfl
 | succ i =>
  have hi2 : ks[i]? = some (ks[i]'(by omega)) := List.getElem?_eq_getElem (by omega)
  rw [badAt_succ hi1 hi2, hvi, List.pairwise_iff_getElem.1 hpk i (i + 1) (by omega) hi (by omega)]
  rfl
def BldV (S : BS) (u : Value) (w : World) : Prop := ∃ x, SVd 0 x ∧ x.size ≤ 241 ∧ VAt w S u x
theorem BldV.ext {S : BS} {u : Value} {w w' : World} (h : BldV S u w) (he : Ext w w') : BldV S u w' := by
 obtain ⟨x, h1, h2, h3⟩ := h; exact ⟨x, h1, h2, h3.ext he⟩
def BldS (key : ByteArray) (S : BS) (v : Value) (w : World) : Prop := ∃ x, SVd 0 x ∧ x.size ≤ 241 ∧ SlShape EField w S v 1 [F.mk key x]
theorem BldS.ext {key : ByteArray} {S : BS} {v : Value} {w w' : World} (h : BldS key S v w) (he : Ext w w') : BldS key S v w' := by
 obtain ⟨x, h1, h2, h3⟩ := h; exact ⟨x, h1, h2, h3.ext EField.ok he⟩
abbrev clwF (b : Nat) : Value := .func (.func 47) #[] #[.pointer (some ⟨b, 0, none⟩)]
theorem with1_ok (w : World) (b : Nat) (fs : List ByteArray) (fv : Value) (S : BS) (key : ByteArray) (c1 c2 c3 c4 c5 : Value) (h : w.cell? ⟨b, 0, none⟩ = some fv) (hs : Sl EStr w S fv fs) :
  Calls Tryd.prog 47 #[.agg #[.string key, c1, c2, c3, c4, c5], .pointer (some ⟨b, 0, none⟩)] w fun e w' => e = .returned (.bool (!amongL fs key)) ∧ Ext w w' := by
 obtain ⟨A, c, rfl, hlc, hcm⟩ := hs.shape
 have hlt := lt_of_cell h
 have hE : Ext w (w.alloc (.cells #[.string key, c1, c2, c3, c4, c5] TFIELD)) := (Keep.refl _ _).alloc _
 have HS := hid (hs.ext EStr.ok hE)
 have HE := hid hE
 have hb := (hE.cell hlt id).trans h
 go_enter Tryd.func47, Tryd.ntmps47
 clear hs hE
 go_wp2_with fail
 refine (among_ok _ S _ fs key HS.out).mono ?_
 rintro e w2 ⟨rfl, hE2⟩
 have HE2 := hid (HE.out.ext hE2)
 clear hE2
 go_wp2
 go_ret
 exact ⟨rfl, HE2.out⟩
theorem windex_field (w : World) (S : BS) (v : Value) (o : List F) (b : Nat) (fs : List ByteArray) (fv : Value) (S2 : BS) (h : Sl EField w S v o) (hb : w.cell? ⟨b, 0, none⟩ = some fv) (hs : Sl EStr w S2 fv fs) :
  Calls Tryd.prog 57 #[v, clwF b] w fun e w' =>
   ((e = .returned (.int .i64 (-1)) ∧ Stay fs o o.length) ∨ ∃ k : Nat, e = .returned (.int .i64 (k : Int)) ∧ Stay fs o k ∧ GoesAt fs o k) ∧ Ext w w' := by
 obtain ⟨A, c, rfl, hlc, hcm⟩ := h.shape
 unfold maxLen at hcm
 have hblt := lt_of_cell hb
 have HA := hid h
 have HS := hid hs
 generalize hn : o.length = n at *
 have HN := hid hn
 clear h hn hs
 go_enter Tryd.func57, Tryd.ntmps57
 go_wp2
 go_loopw [8] (fun i wr => ∃ j : Nat, j ≤ n ∧ i = .int .i64 j ∧ Stay fs o j ∧ Ext w wr) (fun i _ => n - (intOf i).toNat)
 case atStart => exact ⟨0, by omega, rfl, fun i _ h => by omega, Keep.refl _ _⟩
 case round =>
  obtain ⟨j, hj, rfl, hfl, hEj⟩ := hrel
  have HF := hid hfl
  clear hfl
  by_cases hlt : j < n
  ·have hjm : j < o.length := by rw [HN.out]; exact hlt
   obtain ⟨b1, o1, c0, rfl, _, _, hrd, hcell⟩ := (HA.out.ext EField.ok hEj).at_ EField.ok hjm
   generalize hm : o[j]'hjm = m at *
   obtain ⟨lv, ov, rfl, ⟨A1, d1, rfl⟩, ⟨A2, d2, rfl⟩, _⟩ := EField_cells hrd
   have e0 := hcell 0 _ rfl
   have e1 := hcell 1 _ rfl
   have e2 := hcell 2 _ rfl
   have e3 := hcell 3 _ rfl
   have e4 := hcell 4 _ rfl
   have e5 := hcell 5 _ rfl
   have hz : EField.size = 6 := rfl
   simp only [hz, Nat.add_zero] at e0 e1 e2 e3 e4 e5
   have hbj := (hEj.cell hblt id).trans hb
   have HM := hid hm
   have HSJ := hid (HS.out.ext EStr.ok hEj)
   clear hz hcell hrd hm
   obtain ⟨p, hp⟩ : ∃ p : Bool, goes fs m = p := ⟨_, rfl⟩
   go_wp2_with fail
   refine (with1_ok _ _ fs _ _ _ _ _ _ _ _ hbj HSJ.out).mono ?_
   rintro e w2 ⟨rfl, hE2⟩
   rw [show (!amongL fs m.key) = p from hp]
   have HE := hid (hEj.ext hE2)
   have HP := hid hp
   clear hE2 hEj hp
   cases p with
   | true =>
    go_wp2
    go_ret
    exact ⟨.inr ⟨j, rfl, HF.out, hjm, by rw [HM.out]; exact HP.out⟩, HE.out⟩
   | false =>
    go_wp2
    go_roundw
    case rel =>
     refine ⟨j + 1, by omega, by go_num, fun i hi hij => ?_, HE.out⟩
     rcases Nat.lt_or_ge i j with h | h
     ·exact HF.out i hi h
     ·obtain rfl : i = j := by omega
      rw [HM.out]; exact HP.out
    case measure => simp [intOf]; omega
  ·obtain rfl : j = n := by omega
   have HE := hid hEj
   clear hEj
   go_wp2
   go_ret
   exact ⟨.inl ⟨rfl, HF.out⟩, HE.out⟩
theorem wcontains_ok (w : World) (S : BS) (v : Value) (o : List F) (b : Nat) (fs : List ByteArray) (fv : Value) (S2 : BS) (h : Sl EField w S v o) (hb : w.cell? ⟨b, 0, none⟩ = some fv) (hs : Sl EStr w S2 fv fs) :
  Calls Tryd.prog 46 #[v, clwF b] w fun e w' => e = .returned (.bool (o.any (goes fs))) ∧ Ext w w' := by
 have HI := hid (windex_field w S v o b fs fv S2 h hb hs)
 obtain ⟨A, c, rfl, hlc, hcm⟩ := h.shape
 clear h
 go_enter Tryd.func46, Tryd.ntmps46
 go_wp2_with fail
 refine HI.out.mono ?_
 rintro e w2 ⟨⟨rfl, hst⟩ | ⟨k, rfl, hst, hg⟩, hE⟩
 ·have HE := hid hE
  have HR := hid (show o.any (goes fs) = false from by
   rw [List.any_eq_false]
   intro f hf
   obtain ⟨i, hi, rfl⟩ := List.getElem_of_mem hf
   simp [hst i hi hi])
  clear hE hst
  go_wp2
  go_ret
  exact ⟨by rw [HR.out]; rfl, HE.out⟩
 ·have HE := hid hE
  have HR := hid (show o.any (goes fs) = true from by
   obtain ⟨hk, hg⟩ := hg
   exact List.any_eq_true.2 ⟨_, List.getElem_mem hk, hg⟩)
  have hk : ¬ ((k : Int) < 0) := by omega
  have hk2 : decide ((0 : Int) ≤ k) = true := by simp
  clear hE hst hg
  go_wp2
  go_ret
  exact ⟨by rw [HR.out]; first | rfl | simp, HE.out⟩
theorem within_create (w : World) (S S2 : BS) (v : V) (lv ov fv : Value) (fs : List ByteArray) (hv : VAt w S (.agg #[U8 v.kind, .int .i64 v.n, .string v.s, lv, ov]) v) (hk : v.kind = 5) (hs : Sl EStr w S2 fv fs) :
  Calls Tryd.prog 22 #[.agg #[.int .u8 1, .int .u32 0, .int .u32 0, .int .u8 5, .int .i64 v.n, .string v.s, lv, ov, .slice none 0 0], fv] w fun e w' => e = .returned (.bool (!v.o.any (goes fs))) ∧ Ext w w' := by
 obtain ⟨lv', ov', e, hl, ho⟩ := hv
 simp at e
 obtain ⟨rfl, rfl⟩ := e
 obtain ⟨A, c, rfl, hlc, hcm⟩ := hl.shape
 obtain ⟨A', c', rfl, hlc', hcm'⟩ := ho.shape
 obtain ⟨B, d, rfl, _, _⟩ := hs.shape
 obtain ⟨W0, hW0⟩ : ∃ W0, (w.alloc (.cells #[.int .u8 1, .int .u32 0, .int .u32 0, .int .u8 5, .int .i64 v.n, .string v.s, .slice A v.l.length c, .slice A' v.o.length c', .slice none 0 0] 45)).alloc (.cells #[.slice B fs.length d] 23) = W0 := ⟨_, rfl⟩
 have hE0 : Ext w W0 := by rw [← hW0]; exact ((Keep.refl _ _).alloc _).alloc _
 have hb0 : Blk W0 w.heap.size 45 #[.int .u8 1, .int .u32 0, .int .u32 0, .int .u8 5, .int .i64 v.n, .string v.s, .slice A v.l.length c, .slice A' v.o.length c', .slice none 0 0] := by rw [← hW0]; exact (Blk.new _ _ _).alloc _
 have hb1 : Blk W0 (w.heap.size + 1) 23 #[.slice B fs.length d] := by
  have := Blk.new (w.alloc (.cells #[.int .u8 1, .int .u32 0, .int .u32 0, .int .u8 5, .int .i64 v.n, .string v.s, .slice A v.l.length c, .slice A' v.o.length c', .slice none 0 0] 45)) 23 #[.slice B fs.length d]
  rw [World.size_alloc] at this
  rw [← hW0]; exact this
 have HO := hid (ho.ext EField.ok hE0)
 have HS := hid (hs.ext EStr.ok hE0)
 have HE0 := hid hE0
 have q0 := hb0.cell 0
 have q3 := hb0.cell 3
 have q7 := hb0.cell 7
 have f0 := hb1.cell 0
 simp only [List.getElem?_toArray, List.getElem?_cons_succ, List.getElem?_cons_zero] at q0 q3 q7 f0
 have HW := hid (wcontains_ok W0 S _ v.o (w.heap.size + 1) fs _ S2 HO.out f0 HS.out)
 clear hl ho hs hE0 hb0 hb1
 go_enter Tryd.func22, Tryd.ntmps22
 go_wp2_with fail
 refine HW.out.mono ?_
 rintro e w2 ⟨rfl, hE⟩
 have HE := hid (HE0.out.ext hE)
 obtain ⟨r, hr⟩ : ∃ r, v.o.any (goes fs) = r := ⟨_, rfl⟩
 rw [hr]
 have HR := hid hr
 clear hr
 clear hE hW0 q0 q3 q7 f0
 go_wp2
 go_ret
 exact ⟨by rw [HR.out]; first | rfl | (cases r <;> rfl), HE.out⟩
end Go.Proofs.YtggkidnlmaindaaDoor
