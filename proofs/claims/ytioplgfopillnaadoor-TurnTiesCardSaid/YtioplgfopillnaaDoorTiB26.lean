/- Do6E: laid together. -/
import Derived.Test.YtioplgfopillnaaDoorTiB24
import Derived.Test.YtioplgfopillnaaDoorTiB25
import Derived.Test.YtioplgfopillnaaDoorTiB17
/- The reference's Do of what puts a field, or takes one away. -/
set_option linter.unusedSimpArgs false
set_option linter.unusedVariables false
namespace Go.Proofs.YtioplgfopillnaaDoor
open Go.RowKit
set_option linter.unusedVariables false

def withO (x : V) (o : List F) : V := .mk x.kind x.n x.s x.l o
/-- What Do hands back, where it is done. -/
def Do6Is (w : World) (z : V) (e : Ending) (w' : World) : Prop := ∃ u, e = .returned (.tuple #[u, .int .i64 0]) ∧ VIs w' (fun k => w.heap.size ≤ k) u z ∧ Ext w w'
set_option maxRecDepth 20000 in
set_option maxHeartbeats 3200000 in
theorem rdo6_put (w0 : World) (hva : ValAny w0) (w : World) (hw : Ext w0 w) (S S2 : BS) (u t : Value) (v x z : V) (c : Cp) (hv : VAt w S u v) (hc : CAt w S2 t c) (hs : Snd6 c) (hg : getV v c.path = some x) (hsz : v.size ≤ 1000000) (hxo : x.o.length ≤ 100000)
    (hk : c.kind = 2 ∨ (c.kind = 3 ∧ fieldIs x.o c.key = true)) (hxk : x.kind = 5) (hz : putV v c.path (withO x (fldR (.mk c.key c.v) (c.kind.toNat == 3) x.o)) = some z) (hxz : (withO x (fldR (.mk c.key c.v) (c.kind.toNat == 3) x.o)).size ≤ 1000000) :
    Calls Tryd.prog 22 #[u, t] w (Do6Is w z) := by
  obtain ⟨pv, lv, ov, rfl, h1, h2, h3⟩ := hc.cut
  obtain ⟨Ap, cp, rfl, _⟩ := h1.shape
  obtain ⟨Al, cl, rfl, _⟩ := h2.shape
  obtain ⟨Ao, co, rfl, _⟩ := h3.shape
  obtain ⟨lx, ox, rfl, k1, k2⟩ := hv.cut
  obtain ⟨Bl, dl, rfl, _⟩ := k1.shape
  obtain ⟨Bo, do_, rfl, _⟩ := k2.shape
  obtain ⟨W, hW⟩ : ∃ W, ((w.alloc (.cells #[U8 v.kind, .int .i64 v.n, .string v.s, .slice Bl v.l.length dl, .slice Bo v.o.length do_] TVAL)).alloc (.cells (cpCells c (.slice Ap c.path.length cp) (.slice Al c.v.l.length cl) (.slice Ao c.v.o.length co)) TCMP)).alloc (.cells #[.int .u8 0, .int .i64 0, .string ⟨#[]⟩, .slice none 0 0, .slice none 0 0] TVAL) = W := ⟨_, rfl⟩
  have hE1 : Ext w (w.alloc (.cells #[U8 v.kind, .int .i64 v.n, .string v.s, .slice Bl v.l.length dl, .slice Bo v.o.length do_] TVAL)) := (Keep.refl _ _).alloc _
  have hE2 : Ext (w.alloc (.cells #[U8 v.kind, .int .i64 v.n, .string v.s, .slice Bl v.l.length dl, .slice Bo v.o.length do_] TVAL)) ((w.alloc (.cells #[U8 v.kind, .int .i64 v.n, .string v.s, .slice Bl v.l.length dl, .slice Bo v.o.length do_] TVAL)).alloc (.cells (cpCells c (.slice Ap c.path.length cp) (.slice Al c.v.l.length cl) (.slice Ao c.v.o.length co)) TCMP)) := (Keep.refl _ _).alloc _
  have hE3 : Ext ((w.alloc (.cells #[U8 v.kind, .int .i64 v.n, .string v.s, .slice Bl v.l.length dl, .slice Bo v.o.length do_] TVAL)).alloc (.cells (cpCells c (.slice Ap c.path.length cp) (.slice Al c.v.l.length cl) (.slice Ao c.v.o.length co)) TCMP)) W := by rw [← hW]; exact (Keep.refl _ _).alloc _
  have hE : Ext w W := (hE1.ext hE2).ext hE3
  have hsz3 : W.heap.size = w.heap.size + 3 := by rw [← hW]; simp
  have hb : Blk W w.heap.size TVAL #[U8 v.kind, .int .i64 v.n, .string v.s, .slice Bl v.l.length dl, .slice Bo v.o.length do_] := ((Blk.new _ _ _).keep hE2 id).keep hE3 id
  have hcb : Blk W (w.heap.size + 1) TCMP (cpCells c (.slice Ap c.path.length cp) (.slice Al c.v.l.length cl) (.slice Ao c.v.o.length co)) := by
    have := Blk.new (w.alloc (.cells #[U8 v.kind, .int .i64 v.n, .string v.s, .slice Bl v.l.length dl, .slice Bo v.o.length do_] TVAL)) TCMP (cpCells c (.slice Ap c.path.length cp) (.slice Al c.v.l.length cl) (.slice Ao c.v.o.length co))
    rw [World.size_alloc] at this
    exact this.keep hE3 id
  have hrb : Blk W (w.heap.size + 2) TVAL #[.int .u8 0, .int .i64 0, .string ⟨#[]⟩, .slice none 0 0, .slice none 0 0] := by
    have := Blk.new ((w.alloc (.cells #[U8 v.kind, .int .i64 v.n, .string v.s, .slice Bl v.l.length dl, .slice Bo v.o.length do_] TVAL)).alloc (.cells (cpCells c (.slice Ap c.path.length cp) (.slice Al c.v.l.length cl) (.slice Ao c.v.o.length co)) TCMP)) TVAL #[.int .u8 0, .int .i64 0, .string ⟨#[]⟩, .slice none 0 0, .slice none 0 0]
    rw [World.size_alloc, World.size_alloc, hW] at this
    exact this
  have HV := hid (show VAt W (fun k => k < w.heap.size) (.agg #[U8 v.kind, .int .i64 v.n, .string v.s, .slice Bl v.l.length dl, .slice Bo v.o.length do_]) v from VAt.more ⟨_, _, rfl, k1.ext EVal.ok hE, k2.ext EField.ok hE⟩ fun k _ h => h.2)
  have HCC := hid (show CAt W (fun k => k < w.heap.size) (.agg (cpCells c (.slice Ap c.path.length cp) (.slice Al c.v.l.length cl) (.slice Ao c.v.o.length co))) c from CAt.more ⟨_, _, _, rfl, h1.ext ESt.ok hE, h2.ext EVal.ok hE, h3.ext EField.ok hE⟩ fun k _ h => h.2)
  have HP := hid ((h1.more (S' := fun k => k < w.heap.size) ESt.ok fun k _ h => h.2).ext ESt.ok hE)
  have HE := hid hE
  have HSZ := hid hsz3
  have HCB := hid hcb
  have HB := hid hb
  have HRB := hid hrb
  have HX := hid (hw.ext hE)
  have HVA := hid hva
  have HS := hid hs
  have HG := hid hg
  have HK := hid hk
  have HXK := hid hxk
  have HZ := hid hz
  have HXZ := hid hxz
  obtain ⟨y0, y1, y2, y3, y4⟩ := blk5 hb
  have x0 := hcb.cell 0
  have x1 := hcb.cell 1
  have x2 := hcb.cell 2
  have x3 := hcb.cell 3
  have x4 := hcb.cell 4
  have x5 := hcb.cell 5
  have x6 := hcb.cell 6
  have x7 := hcb.cell 7
  have x8 := hcb.cell 8
  have x9 := hcb.cell 9
  have x10 := hcb.cell 10
  have x11 := hcb.cell 11
  simp at x0 x1 x2 x3 x4 x5 x6 x7 x8 x9 x10 x11
  clear h1 h2 h3 k1 k2 hE hE1 hE2 hE3 hsz3 hb hcb hrb hw hva hs hg hk hxk hz hxz hc hv
  go_enter Tryd.func22, Tryd.ntmps22
  go_wp2_with fail
  refine (rcheck6_ok _ HVA.out W HX.out _ _ _ _ v x c HV.out HCC.out HS.out HG.out hsz (fun w1 S3 S4 u1 t1 he h1 h2 => rkinds_put w1 S3 S4 u1 t1 x c h1 h2 HK.out HXK.out)).mono ?_
  rintro e W2 ⟨rfl, hE2⟩
  have hcb := HCB.out.keep hE2 id
  have hb := HB.out.keep hE2 id
  have HRB2 := hid (HRB.out.keep hE2 id)
  have HVS0 := hid HRB2.out.lt
  have HE2 := hid (HE.out.ext hE2)
  have HV2 := hid (HV.out.ext hE2)
  have HC2 := hid (HCC.out.ext hE2)
  have HP2 := hid (HP.out.ext ESt.ok hE2)
  have HCB2 := hid hcb
  have HB2 := hid hb
  clear hE2 hW HV HCC HP HE HX HCB HB HRB y0 y1 y2 y3 y4 x0 x1 x2 x3 x4 x5 x6 x7 x8 x9 x10 x11
  obtain ⟨y0, y1, y2, y3, y4⟩ := blk5 hb
  have x0 := hcb.cell 0
  have x1 := hcb.cell 1
  have x2 := hcb.cell 2
  have x3 := hcb.cell 3
  have x4 := hcb.cell 4
  have x5 := hcb.cell 5
  have x6 := hcb.cell 6
  have x7 := hcb.cell 7
  have x8 := hcb.cell 8
  have x9 := hcb.cell 9
  have x10 := hcb.cell 10
  have x11 := hcb.cell 11
  simp at x0 x1 x2 x3 x4 x5 x6 x7 x8 x9 x10 x11
  clear hb hcb
  go_wp2_with fail
  refine (rget_new W2 _ _ v c.path _ _ HV2.out HP2.out hsz).mono ?_
  intro e W3 hget
  unfold RGetN at hget
  rw [HG.out] at hget
  obtain ⟨⟨ux, rfl, lq, oq, rfl, q1, q2⟩, hE3⟩ := hget
  obtain ⟨Cl, el, rfl, _⟩ := q1.shape
  obtain ⟨Co, eo, rfl, _⟩ := q2.shape
  have hA : Ext W3 (W3.alloc (.cells #[U8 x.kind, .int .i64 x.n, .string x.s, .slice Cl x.l.length el, .slice Co x.o.length eo] TVAL)) := (Keep.refl _ _).alloc _
  have hxb := Blk.new W3 TVAL #[U8 x.kind, .int .i64 x.n, .string x.s, .slice Cl x.l.length el, .slice Co x.o.length eo]
  have HXL := hid ((q1.more (S' := fun k => W2.heap.size ≤ k ∧ k < W3.heap.size) EVal.ok fun k h1 h2 => ⟨h2, h1⟩).ext EVal.ok hA)
  have HXO := hid ((q2.more (S' := fun k => W2.heap.size ≤ k ∧ k < W3.heap.size) EField.ok fun k h1 h2 => ⟨h2, h1⟩).ext EField.ok hA)
  have HE3 := hid (HE2.out.ext (hE3.ext hA))
  have HC3 := hid (HC2.out.ext (hE3.ext hA))
  have HV3 := hid (HV2.out.ext (hE3.ext hA))
  have HP3 := hid (HP2.out.ext ESt.ok (hE3.ext hA))
  have HS23 := hid hE3.size
  have hcb := HCB2.out.keep (hE3.ext hA) id
  have HCB3 := hid hcb
  have HB3 := hid (HB2.out.keep (hE3.ext hA) id)
  have HRB3 := hid (HRB2.out.keep (hE3.ext hA) id)
  have HXB := hid hxb
  clear q1 q2 hE3 hA HV2 HC2 HP2 HE2 HCB2 HB2 HRB2 y0 y1 y2 y3 y4 x0 x1 x2 x3 x4 x5 x6 x7 x8 x9 x10 x11
  obtain ⟨y0, y1, y2, y3, y4⟩ := blk5 hxb
  have x0 := hcb.cell 0
  have x1 := hcb.cell 1
  have x2 := hcb.cell 2
  have x3 := hcb.cell 3
  have x4 := hcb.cell 4
  have x5 := hcb.cell 5
  have x6 := hcb.cell 6
  have x7 := hcb.cell 7
  have x8 := hcb.cell 8
  have x9 := hcb.cell 9
  have x10 := hcb.cell 10
  have x11 := hcb.cell 11
  simp at x0 x1 x2 x3 x4 x5 x6 x7 x8 x9 x10 x11
  clear hxb hcb
  rcases HK.out with hk | ⟨hk, hf⟩
  · have HKD := hid hk
    have HC3K := hid (show CAt (W3.alloc (.cells #[U8 x.kind, .int .i64 x.n, .string x.s, .slice Cl x.l.length el, .slice Co x.o.length eo] TVAL)) (fun k => k < w.heap.size) (.agg ((cpCells c (.slice Ap c.path.length cp) (.slice Al c.v.l.length cl) (.slice Ao c.v.o.length co)).set 0 (U8 2))) c from by rw [show (cpCells c (.slice Ap c.path.length cp) (.slice Al c.v.l.length cl) (.slice Ao c.v.o.length co)).set 0 (U8 2) = (cpCells c (.slice Ap c.path.length cp) (.slice Al c.v.l.length cl) (.slice Ao c.v.o.length co)) from by rw [← HKD.out]; rfl]; exact HC3.out)
    rw [hk] at x0
    clear hk
    go_wp2_with fail
    generalize W3.alloc (.cells #[U8 x.kind, .int .i64 x.n, .string x.s, .slice Cl x.l.length el, .slice Co x.o.length eo] TVAL) = W4 at *
    refine (fields6_ok W4 _ _ _ _ x.o c HXO.out HC3K.out hxo HS.out.size).mono ?_
    rintro e W5 ⟨ov, base, rfl, hbase, ho, hE5⟩
    rw [show (c.kind.toNat == 3) = false from by rw [HKD.out]; rfl] at ho
    obtain ⟨Df, cf, rfl, hlf, hcf⟩ := ho.shape
    have HZZ : Hid (putV v c.path (withO x (fldR (.mk c.key c.v) false x.o)) = some z) := hid (by have := HZ.out; rw [show (c.kind.toNat == 3) = false from by rw [HKD.out]; rfl] at this; exact this)
    have HXZ2 : Hid ((withO x (fldR (.mk c.key c.v) false x.o)).size ≤ 1000000) := hid (by have := HXZ.out; rw [show (c.kind.toNat == 3) = false from by rw [HKD.out]; rfl] at this; exact this)
    generalize fldR (.mk c.key c.v) false x.o = nf at *
    have hs5 := hE5.size
    have hxb := HXB.out.keep hE5 id
    have z4 := hxb.cell 4
    have g4 := hxb.frozen 4
    simp at z4
    have HVS : w.heap.size + 2 < W2.heap.size := HVS0.out
    have hw34 : W2.heap.size ≤ W3.heap.size := HS23.out
    have hwx : W3.heap.size < W4.heap.size := HXB.out.lt
    obtain ⟨X, hX⟩ : ∃ X, W5.setCell ⟨W3.heap.size, 4, none⟩ (.slice Df nf.length cf) = X := ⟨_, rfl⟩
    have hkx : Keep (· = W3.heap.size) W5 X := by rw [← hX]; exact (Keep.refl (· = W3.heap.size) W5).set1 4 _
    have hxb2 : Blk X W3.heap.size TVAL #[U8 x.kind, .int .i64 x.n, .string x.s, .slice Cl x.l.length el, .slice Df nf.length cf] := by rw [← hX]; exact hxb.set_ 4 (.slice Df nf.length cf)
    have HVX := hid (show VAt X (fun _ => True) (.agg #[U8 x.kind, .int .i64 x.n, .string x.s, .slice Cl x.l.length el, .slice Df nf.length cf]) (withO x nf) from ⟨_, _, rfl, (((HXL.out.ext EVal.ok hE5).keep EVal.ok hkx fun k h e => by omega).more EVal.ok fun _ _ _ => trivial), (((ho.sl EField.ok).keep EField.ok hkx fun k h e => by
      rcases h with (h | h) | h
      · omega
      · omega
      · have := (ho.lt h).1; omega).more EField.ok fun _ _ _ => trivial)⟩)
    have hEX : Ext w X := (HE3.out.ext hE5).trans hkx fun k hk e => by omega
    have HEX := hid hEX
    have HVV := hid ((HV3.out.ext hE5).keep hkx fun k h e => by omega)
    have HPP := hid ((HP3.out.ext ESt.ok hE5).keep ESt.ok hkx fun k h e => by omega)
    have HRX := hid ((HRB3.out.keep hE5 id).keep hkx (by omega))
    have hvb := (HB3.out.keep hE5 id).keep hkx (by omega)
    have hcb := (HCB3.out.keep hE5 id).keep hkx (by omega)
    clear y0 y1 y2 y3 y4 x0 x1 x2 x3 x4 x5 x6 x7 x8 x9 x10 x11
    obtain ⟨y0, y1, y2, y3, y4⟩ := blk5 hvb
    obtain ⟨q0, q1, q2, q3, q4⟩ := blk5 hxb2
    have x1 := hcb.cell 1
    simp at x1
    clear hkx hxb hxb2 hE5 ho hEX hvb hcb HXL HXO HE3 HC3 HV3 HP3 HCB3 HB3 HRB3 HXB HC3K HZ HXZ HS HG HK HVA HS23
    go_wp2_with fail
    refine (rput_ok c.path X _ _ _ v (withO x nf) _ _ _ HVV.out HVX.out HPP.out hsz HXZ2.out).mono ?_
    intro e X2 hput
    unfold RPutIs at hput
    rw [HZZ.out] at hput
    obtain ⟨⟨uz, rfl, lz, oz, rfl, r1, r2⟩, hE7⟩ := hput
    obtain ⟨Dl, fl, rfl, _⟩ := r1.shape
    obtain ⟨Do, fo, rfl, _⟩ := r2.shape
    have hrb := HRX.out.keep hE7 id
    have hxz := HEX.out.size
    have hsx := HRX.out.lt
    have t0 := hrb.cell 0
    have t1 := hrb.cell 1
    have t2 := hrb.cell 2
    have t3 := hrb.cell 3
    have t4 := hrb.cell 4
    have g0 := hrb.frozen 0
    have g1 := hrb.frozen 1
    have g2 := hrb.frozen 2
    have g3 := hrb.frozen 3
    have gg4 := hrb.frozen 4
    simp at t0 t1 t2 t3 t4
    have HK7 := hid (show Keep (· = w.heap.size + 2) X2 (set5 X2 (w.heap.size + 2) 0 (.int .u8 (z.kind.toNat : Int)) (.int .i64 z.n) (.string z.s) (.slice Dl z.l.length fl) (.slice Do z.o.length fo)) from set5_keep _ _ _ _ _ _ _ _)
    have HR1 := hid r1
    have HR2 := hid r2
    have HE7 := hid hE7
    clear r1 r2 hE7 hrb y0 y1 y2 y3 y4 q0 q1 q2 q3 q4 x1 hX z4 g4
    go_wp2
    refine bodyPost_ret (v := .tuple #[.agg #[U8 z.kind, .int .i64 z.n, .string z.s, .slice Dl z.l.length fl, .slice Do z.o.length fo], .int .i64 0]) (by simp [results, Tryd.results22, go_sem, t0, t1, t2, t3, t4]) rfl ?_
    exact ⟨_, rfl, ⟨_, _, _, _, rfl, (HR1.out.keep EVal.ok HK7.out fun k h e => by omega).more EVal.ok fun k _ h => by omega, (HR2.out.keep EField.ok HK7.out fun k h e => by omega).more EField.ok fun k _ h => by omega⟩, (HEX.out.ext HE7.out).trans HK7.out fun k hk e => by omega⟩

  · have HKD := hid hk
    have HC3K := hid (show CAt (W3.alloc (.cells #[U8 x.kind, .int .i64 x.n, .string x.s, .slice Cl x.l.length el, .slice Co x.o.length eo] TVAL)) (fun k => k < w.heap.size) (.agg ((cpCells c (.slice Ap c.path.length cp) (.slice Al c.v.l.length cl) (.slice Ao c.v.o.length co)).set 0 (U8 3))) c from by rw [show (cpCells c (.slice Ap c.path.length cp) (.slice Al c.v.l.length cl) (.slice Ao c.v.o.length co)).set 0 (U8 3) = (cpCells c (.slice Ap c.path.length cp) (.slice Al c.v.l.length cl) (.slice Ao c.v.o.length co)) from by rw [← HKD.out]; rfl]; exact HC3.out)
    rw [hk] at x0
    clear hk hf
    go_wp2_with fail
    generalize W3.alloc (.cells #[U8 x.kind, .int .i64 x.n, .string x.s, .slice Cl x.l.length el, .slice Co x.o.length eo] TVAL) = W4 at *
    refine (fields6_ok W4 _ _ _ _ x.o c HXO.out HC3K.out hxo HS.out.size).mono ?_
    rintro e W5 ⟨ov, base, rfl, hbase, ho, hE5⟩
    rw [show (c.kind.toNat == 3) = true from by rw [HKD.out]; rfl] at ho
    obtain ⟨Df, cf, rfl, hlf, hcf⟩ := ho.shape
    have HZZ : Hid (putV v c.path (withO x (fldR (.mk c.key c.v) true x.o)) = some z) := hid (by have := HZ.out; rw [show (c.kind.toNat == 3) = true from by rw [HKD.out]; rfl] at this; exact this)
    have HXZ2 : Hid ((withO x (fldR (.mk c.key c.v) true x.o)).size ≤ 1000000) := hid (by have := HXZ.out; rw [show (c.kind.toNat == 3) = true from by rw [HKD.out]; rfl] at this; exact this)
    generalize fldR (.mk c.key c.v) true x.o = nf at *
    have hs5 := hE5.size
    have hxb := HXB.out.keep hE5 id
    have z4 := hxb.cell 4
    have g4 := hxb.frozen 4
    simp at z4
    have HVS : w.heap.size + 2 < W2.heap.size := HVS0.out
    have hw34 : W2.heap.size ≤ W3.heap.size := HS23.out
    have hwx : W3.heap.size < W4.heap.size := HXB.out.lt
    obtain ⟨X, hX⟩ : ∃ X, W5.setCell ⟨W3.heap.size, 4, none⟩ (.slice Df nf.length cf) = X := ⟨_, rfl⟩
    have hkx : Keep (· = W3.heap.size) W5 X := by rw [← hX]; exact (Keep.refl (· = W3.heap.size) W5).set1 4 _
    have hxb2 : Blk X W3.heap.size TVAL #[U8 x.kind, .int .i64 x.n, .string x.s, .slice Cl x.l.length el, .slice Df nf.length cf] := by rw [← hX]; exact hxb.set_ 4 (.slice Df nf.length cf)
    have HVX := hid (show VAt X (fun _ => True) (.agg #[U8 x.kind, .int .i64 x.n, .string x.s, .slice Cl x.l.length el, .slice Df nf.length cf]) (withO x nf) from ⟨_, _, rfl, (((HXL.out.ext EVal.ok hE5).keep EVal.ok hkx fun k h e => by omega).more EVal.ok fun _ _ _ => trivial), (((ho.sl EField.ok).keep EField.ok hkx fun k h e => by
      rcases h with (h | h) | h
      · omega
      · omega
      · have := (ho.lt h).1; omega).more EField.ok fun _ _ _ => trivial)⟩)
    have hEX : Ext w X := (HE3.out.ext hE5).trans hkx fun k hk e => by omega
    have HEX := hid hEX
    have HVV := hid ((HV3.out.ext hE5).keep hkx fun k h e => by omega)
    have HPP := hid ((HP3.out.ext ESt.ok hE5).keep ESt.ok hkx fun k h e => by omega)
    have HRX := hid ((HRB3.out.keep hE5 id).keep hkx (by omega))
    have hvb := (HB3.out.keep hE5 id).keep hkx (by omega)
    have hcb := (HCB3.out.keep hE5 id).keep hkx (by omega)
    clear y0 y1 y2 y3 y4 x0 x1 x2 x3 x4 x5 x6 x7 x8 x9 x10 x11
    obtain ⟨y0, y1, y2, y3, y4⟩ := blk5 hvb
    obtain ⟨q0, q1, q2, q3, q4⟩ := blk5 hxb2
    have x1 := hcb.cell 1
    simp at x1
    clear hkx hxb hxb2 hE5 ho hEX hvb hcb HXL HXO HE3 HC3 HV3 HP3 HCB3 HB3 HRB3 HXB HC3K HZ HXZ HS HG HK HVA HS23
    go_wp2_with fail
    refine (rput_ok c.path X _ _ _ v (withO x nf) _ _ _ HVV.out HVX.out HPP.out hsz HXZ2.out).mono ?_
    intro e X2 hput
    unfold RPutIs at hput
    rw [HZZ.out] at hput
    obtain ⟨⟨uz, rfl, lz, oz, rfl, r1, r2⟩, hE7⟩ := hput
    obtain ⟨Dl, fl, rfl, _⟩ := r1.shape
    obtain ⟨Do, fo, rfl, _⟩ := r2.shape
    have hrb := HRX.out.keep hE7 id
    have hxz := HEX.out.size
    have hsx := HRX.out.lt
    have t0 := hrb.cell 0
    have t1 := hrb.cell 1
    have t2 := hrb.cell 2
    have t3 := hrb.cell 3
    have t4 := hrb.cell 4
    have g0 := hrb.frozen 0
    have g1 := hrb.frozen 1
    have g2 := hrb.frozen 2
    have g3 := hrb.frozen 3
    have gg4 := hrb.frozen 4
    simp at t0 t1 t2 t3 t4
    have HK7 := hid (show Keep (· = w.heap.size + 2) X2 (set5 X2 (w.heap.size + 2) 0 (.int .u8 (z.kind.toNat : Int)) (.int .i64 z.n) (.string z.s) (.slice Dl z.l.length fl) (.slice Do z.o.length fo)) from set5_keep _ _ _ _ _ _ _ _)
    have HR1 := hid r1
    have HR2 := hid r2
    have HE7 := hid hE7
    clear r1 r2 hE7 hrb y0 y1 y2 y3 y4 q0 q1 q2 q3 q4 x1 hX z4 g4
    go_wp2
    refine bodyPost_ret (v := .tuple #[.agg #[U8 z.kind, .int .i64 z.n, .string z.s, .slice Dl z.l.length fl, .slice Do z.o.length fo], .int .i64 0]) (by simp [results, Tryd.results22, go_sem, t0, t1, t2, t3, t4]) rfl ?_
    exact ⟨_, rfl, ⟨_, _, _, _, rfl, (HR1.out.keep EVal.ok HK7.out fun k h e => by omega).more EVal.ok fun k _ h => by omega, (HR2.out.keep EField.ok HK7.out fun k h e => by omega).more EField.ok fun k _ h => by omega⟩, (HEX.out.ext HE7.out).trans HK7.out fun k hk e => by omega⟩

end Go.Proofs.YtioplgfopillnaaDoor
