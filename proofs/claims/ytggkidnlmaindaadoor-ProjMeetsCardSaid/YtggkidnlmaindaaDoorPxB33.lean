/- Do6L, Do6M, Do6N, Do6F: laid together. -/
import Derived.Test.YtggkidnlmaindaaDoorPxB30
import Derived.Test.YtggkidnlmaindaaDoorPxB25
set_option linter.unusedSimpArgs false
set_option linter.unusedVariables false
set_option maxHeartbeats 25600000
set_option maxRecDepth 20000
namespace Go.Proofs.YtggkidnlmaindaaDoor
open Go.RowKit
theorem rdo6_add (w0 : World) (hva : ValAny w0) (w : World) (hw : Ext w0 w) (S S2 : BS) (u t : Value) (v x z : V) (c : Cp) (hv : VAt w S u v) (hc : CAt w S2 t c) (hs : Snd6 c) (hg : getV v c.path = some x) (hsz : v.size ≤ 1000000)
  (hk : c.kind = 1) (hxk : x.kind = 2) (hz : putV v c.path (.mk x.kind (IntKind.i64.wrap (x.n + c.n)) x.s x.l x.o) = some z) (hxz : (.mk x.kind (IntKind.i64.wrap (x.n + c.n)) x.s x.l x.o : V).size ≤ 1000000) :
  Calls Tryd.prog 52 #[u, t] w (Do6Is w z) := by
 have HX0 := hid hw
 have HKK := hid hk
 clear hk
 obtain ⟨pv, lv, ov, rfl, h1, h2, h3⟩ := hc.cut
 obtain ⟨Ap, cp, rfl, _⟩ := h1.shape
 obtain ⟨Al, cl, rfl, _⟩ := h2.shape
 obtain ⟨Ao, co, rfl, _⟩ := h3.shape
 obtain ⟨lx, ox, rfl, k1, k2⟩ := hv.cut
 obtain ⟨Bl, dl, rfl, _⟩ := k1.shape
 obtain ⟨Bo, do_, rfl, _⟩ := k2.shape
 obtain ⟨W, hW⟩ : ∃ W, ((w.alloc (.cells (vC v Bl dl Bo do_) TVAL)).alloc (.cells (cC c Ap cp Al cl Ao co) TCMP)).alloc (.cells #[.int .u8 0, .int .i64 0, .string ⟨#[]⟩, .slice none 0 0, .slice none 0 0] TVAL) = W := ⟨_, rfl⟩
 have hE1 : Ext w (w.alloc (.cells (vC v Bl dl Bo do_) TVAL)) := (Keep.refl _ _).alloc _
 have hE2 : Ext (w.alloc (.cells (vC v Bl dl Bo do_) TVAL)) ((w.alloc (.cells (vC v Bl dl Bo do_) TVAL)).alloc (.cells (cC c Ap cp Al cl Ao co) TCMP)) := (Keep.refl _ _).alloc _
 have hE3 : Ext ((w.alloc (.cells (vC v Bl dl Bo do_) TVAL)).alloc (.cells (cC c Ap cp Al cl Ao co) TCMP)) W := by rw [← hW]; exact (Keep.refl _ _).alloc _
 have hE : Ext w W := (hE1.ext hE2).ext hE3
 have hsz3 : W.heap.size = w.heap.size + 3 := by rw [← hW]; simp
 have hb : Blk W w.heap.size TVAL (vC v Bl dl Bo do_) := ((Blk.new _ _ _).keep hE2 id).keep hE3 id
 have hcb : Blk W (w.heap.size + 1) TCMP (cC c Ap cp Al cl Ao co) := by
  have := Blk.new (w.alloc (.cells (vC v Bl dl Bo do_) TVAL)) TCMP (cC c Ap cp Al cl Ao co)
  rw [World.size_alloc] at this
  exact this.keep hE3 id
 have hrb : Blk W (w.heap.size + 2) TVAL #[.int .u8 0, .int .i64 0, .string ⟨#[]⟩, .slice none 0 0, .slice none 0 0] := by
  have := Blk.new ((w.alloc (.cells (vC v Bl dl Bo do_) TVAL)).alloc (.cells (cC c Ap cp Al cl Ao co) TCMP)) TVAL #[.int .u8 0, .int .i64 0, .string ⟨#[]⟩, .slice none 0 0, .slice none 0 0]
  rw [World.size_alloc, World.size_alloc, hW] at this
  exact this
 have HV := hid (show VAt W (fun k => k < w.heap.size) (.agg (vC v Bl dl Bo do_)) v from VAt.more ⟨_, _, rfl, k1.ext EVal.ok hE, k2.ext EField.ok hE⟩ fun k _ h => h.2)
 have HCC := hid (show CAt W (fun k => k < w.heap.size) (.agg (cC c Ap cp Al cl Ao co)) c from CAt.more ⟨_, _, _, rfl, h1.ext ESt.ok hE, h2.ext EVal.ok hE, h3.ext EField.ok hE⟩ fun k _ h => h.2)
 have HP := hid ((h1.more (S' := fun k => k < w.heap.size) ESt.ok fun k _ h => h.2).ext ESt.ok hE)
 have HE := hid hE
 have HSZ := hid hsz3
 have HCB := hid hcb
 have HB := hid hb
 have HRB := hid hrb
 have HX := hid (hw.ext hE)
 have HVA := hid hva
 have HS := hid hs
 have HG := hid hg
 have HXK := hid hxk
 have HZ := hid hz
 have HXZ := hid hxz
 obtain ⟨y0, y1, y2, y3, y4⟩ := blk5 hb
 obtain ⟨x0, x1, x2, x3, x4, x5, x6, x7, x8, x9, x10, x11⟩ := sq12 hcb
 clear h1 h2 h3 k1 k2 hE hE1 hE2 hE3 hsz3 hb hcb hrb hw hva hs hg hxk hz hxz hc hv
 go_enter Tryd.func52, Tryd.ntmps52
 go_wp2_with fail
 refine (rcheck6_ok _ HVA.out W HX.out _ _ _ _ v x c HV.out HCC.out HS.out HG.out hsz (fun w1 S3 S4 u1 t1 he h1 h2 => rkinds_add w1 S3 S4 u1 t1 x c h1 h2 HKK.out HXK.out)).mono ?_
 rintro e W2 ⟨rfl, hE2⟩
 have hcb := HCB.out.keep hE2 id
 have hb := HB.out.keep hE2 id
 have HRB2 := hid (HRB.out.keep hE2 id)
 have HVS0 := hid HRB2.out.lt
 have HE2 := hid (HE.out.ext hE2)
 have HV2 := hid (HV.out.ext hE2)
 have HC2 := hid (HCC.out.ext hE2)
 have HP2 := hid (HP.out.ext ESt.ok hE2)
 have HCB2 := hid hcb
 have HB2 := hid hb
 clear hE2 hW HV HCC HP HE HX HCB HB HRB y0 y1 y2 y3 y4 x0 x1 x2 x3 x4 x5 x6 x7 x8 x9 x10 x11
 obtain ⟨y0, y1, y2, y3, y4⟩ := blk5 hb
 obtain ⟨x0, x1, x2, x3, x4, x5, x6, x7, x8, x9, x10, x11⟩ := sq12 hcb
 clear hb hcb
 go_wp2_with fail
 refine (rget_new W2 _ _ v c.path _ _ HV2.out HP2.out hsz).mono ?_
 intro e W3 hget
 unfold RGetN at hget
 rw [HG.out] at hget
 obtain ⟨⟨ux, rfl, lq, oq, rfl, q1, q2⟩, hE3⟩ := hget
 obtain ⟨Cl, el, rfl, _⟩ := q1.shape
 obtain ⟨Co, eo, rfl, _⟩ := q2.shape
 obtain ⟨nn, hnn⟩ : ∃ nn, wrap64 (x.n + c.n) = nn := ⟨_, rfl⟩
 have hnn2 : IntKind.i64.wrap (x.n + c.n) = nn := by rw [IntWalk.i64_left]; exact hnn
 replace HZ := hid (by have := HZ.out; rw [hnn2] at this; exact this)
 replace HXZ := hid (by have := HXZ.out; rw [hnn2] at this; exact this)
 clear hnn2
 have hA : Ext W3 (W3.alloc (.cells (vC x Cl el Co eo) TVAL)) := (Keep.refl _ _).alloc _
 have hxb := Blk.new W3 TVAL (vC x Cl el Co eo)
 have hA2 : Ext W3 (W3.alloc (.cells #[U8 x.kind, .int .i64 nn, .string x.s, .slice Cl x.l.length el, .slice Co x.o.length eo] TVAL)) := (Keep.refl _ _).alloc _
 have HVX := hid (show VAt (W3.alloc (.cells #[U8 x.kind, .int .i64 nn, .string x.s, .slice Cl x.l.length el, .slice Co x.o.length eo] TVAL)) (fun _ => True) (.agg #[U8 x.kind, .int .i64 nn, .string x.s, .slice Cl x.l.length el, .slice Co x.o.length eo]) (.mk x.kind nn x.s x.l x.o) from ⟨_, _, rfl, (q1.more EVal.ok fun _ _ _ => trivial).ext EVal.ok hA2, (q2.more EField.ok fun _ _ _ => trivial).ext EField.ok hA2⟩)
 have HEX := hid (HE2.out.ext (hE3.ext hA2))
 have HVV := hid (HV2.out.ext (hE3.ext hA2))
 have HPP := hid (HP2.out.ext ESt.ok (hE3.ext hA2))
 have HRX := hid (HRB2.out.keep (hE3.ext hA2) id)
 have HV22 := hid (HB2.out.keep (hE3.ext hA2) id)
 have HC22 := hid (HCB2.out.keep (hE3.ext hA2) id)
 have HX22 := hid (Blk.new W3 TVAL #[U8 x.kind, .int .i64 nn, .string x.s, .slice Cl x.l.length el, .slice Co x.o.length eo])
 have hcb := HCB2.out.keep (hE3.ext hA) id
 have HVS : w.heap.size + 2 < W2.heap.size := HVS0.out
 have hw34 : W2.heap.size ≤ W3.heap.size := hE3.size
 clear q1 q2 hE3 hA hA2 HV2 HC2 HP2 HE2 HCB2 HB2 HRB2 y0 y1 y2 y3 y4 x0 x1 x2 x3 x4 x5 x6 x7 x8 x9 x10 x11
 obtain ⟨y0, y1, y2, y3, y4⟩ := blk5 hxb
 have yf := hxb.frozen 1
 obtain ⟨x0, x1, x2, x3, x4, x5, x6, x7, x8, x9, x10, x11⟩ := sq12 hcb
 clear hxb hcb
 have hkk := HKK.out
 rw [hkk] at x0
 clear hkk
 obtain ⟨u0, u1, u2, u3, u4⟩ := blk5 HV22.out
 obtain ⟨q0, q1, q2, q3, q4⟩ := blk5 HX22.out
 have xx1 := HC22.out.cell 1
 simp at xx1
 clear HS HG HVA
 go_wp2_with fail
 generalize W3.alloc (.cells #[U8 x.kind, .int .i64 nn, .string x.s, .slice Cl x.l.length el, .slice Co x.o.length eo] TVAL) = X at *
 refine (rput_ok c.path X _ _ _ v (.mk x.kind nn x.s x.l x.o) _ _ _ HVV.out HVX.out HPP.out hsz HXZ.out).mono ?_
 intro e X2 hput
 unfold RPutIs at hput
 rw [HZ.out] at hput
 obtain ⟨⟨uz, rfl, lz, oz, rfl, r1, r2⟩, hE7⟩ := hput
 obtain ⟨Dl, fl, rfl, _⟩ := r1.shape
 obtain ⟨Do, fo, rfl, _⟩ := r2.shape
 have hrb := HRX.out.keep hE7 id
 have hxz := HEX.out.size
 have hsx := HRX.out.lt
 obtain ⟨t0, t1, t2, t3, t4⟩ := sq5 hrb
 obtain ⟨g0, g1, g2, g3, gg4⟩ := sqf5 hrb
 have HK7 := hid (show Keep (· = w.heap.size + 2) X2 (set5 X2 (w.heap.size + 2) 0 (.int .u8 (z.kind.toNat : Int)) (.int .i64 z.n) (.string z.s) (.slice Dl z.l.length fl) (.slice Do z.o.length fo)) from set5_keep _ _ _ _ _ _ _ _)
 have HR1 := hid r1
 have HR2 := hid r2
 have HE7 := hid hE7
 clear r1 r2 hE7 hrb y0 y1 y2 y3 y4 u0 u1 u2 u3 u4 q0 q1 q2 q3 q4 xx1 yf hnn x0 x1 x2 x3 x4 x5 x6 x7 x8 x9 x10 x11
 go_wp2
 refine bodyPost_ret (v := .tuple #[.agg (vC z Dl fl Do fo), .int .i64 0]) (by simp [results, Tryd.results52, go_sem, t0, t1, t2, t3, t4]) rfl ?_
 exact ⟨_, rfl, ⟨_, _, _, _, rfl, (HR1.out.keep EVal.ok HK7.out fun k h e => by omega).more EVal.ok fun k _ h => by omega, (HR2.out.keep EField.ok HK7.out fun k h e => by omega).more EField.ok fun k _ h => by omega⟩, (HEX.out.ext HE7.out).trans HK7.out fun k hk e => by omega⟩
theorem rdo6_text (w0 : World) (hva : ValAny w0) (w : World) (hw : Ext w0 w) (S S2 : BS) (u t : Value) (v x z : V) (c : Cp) (hv : VAt w S u v) (hc : CAt w S2 t c) (hs : Snd6 c) (hg : getV v c.path = some x) (hsz : v.size ≤ 1000000)
  (hA : Asc9 x.s) (hxk : x.kind = 3) (hD : DecAny w0) (ht : TextC x.s.size c) (hcs : c.s.size ≤ 1000) (hz : putV v c.path (.mk x.kind x.n (textD x.s c) x.l x.o) = some z) (hxz : (.mk x.kind x.n (textD x.s c) x.l x.o : V).size ≤ 1000000) :
  Calls Tryd.prog 52 #[u, t] w (Do6Is w z) := by
 have HX0 := hid hw
 have HA := hid hA
 have HD := hid hD
 have HT := hid ht
 have HCS := hid hcs
 have hkk : c.kind = 8 ∨ c.kind = 9 := ht.elim (fun h => .inl h.1) fun h => .inr h.1
 have HKK := hid hkk
 clear hA hD ht hcs hkk
 obtain ⟨pv, lv, ov, rfl, h1, h2, h3⟩ := hc.cut
 obtain ⟨Ap, cp, rfl, _⟩ := h1.shape
 obtain ⟨Al, cl, rfl, _⟩ := h2.shape
 obtain ⟨Ao, co, rfl, _⟩ := h3.shape
 obtain ⟨lx, ox, rfl, k1, k2⟩ := hv.cut
 obtain ⟨Bl, dl, rfl, _⟩ := k1.shape
 obtain ⟨Bo, do_, rfl, _⟩ := k2.shape
 obtain ⟨W, hW⟩ : ∃ W, ((w.alloc (.cells (vC v Bl dl Bo do_) TVAL)).alloc (.cells (cC c Ap cp Al cl Ao co) TCMP)).alloc (.cells #[.int .u8 0, .int .i64 0, .string ⟨#[]⟩, .slice none 0 0, .slice none 0 0] TVAL) = W := ⟨_, rfl⟩
 have hE1 : Ext w (w.alloc (.cells (vC v Bl dl Bo do_) TVAL)) := (Keep.refl _ _).alloc _
 have hE2 : Ext (w.alloc (.cells (vC v Bl dl Bo do_) TVAL)) ((w.alloc (.cells (vC v Bl dl Bo do_) TVAL)).alloc (.cells (cC c Ap cp Al cl Ao co) TCMP)) := (Keep.refl _ _).alloc _
 have hE3 : Ext ((w.alloc (.cells (vC v Bl dl Bo do_) TVAL)).alloc (.cells (cC c Ap cp Al cl Ao co) TCMP)) W := by rw [← hW]; exact (Keep.refl _ _).alloc _
 have hE : Ext w W := (hE1.ext hE2).ext hE3
 have hsz3 : W.heap.size = w.heap.size + 3 := by rw [← hW]; simp
 have hb : Blk W w.heap.size TVAL (vC v Bl dl Bo do_) := ((Blk.new _ _ _).keep hE2 id).keep hE3 id
 have hcb : Blk W (w.heap.size + 1) TCMP (cC c Ap cp Al cl Ao co) := by
  have := Blk.new (w.alloc (.cells (vC v Bl dl Bo do_) TVAL)) TCMP (cC c Ap cp Al cl Ao co)
  rw [World.size_alloc] at this
  exact this.keep hE3 id
 have hrb : Blk W (w.heap.size + 2) TVAL #[.int .u8 0, .int .i64 0, .string ⟨#[]⟩, .slice none 0 0, .slice none 0 0] := by
  have := Blk.new ((w.alloc (.cells (vC v Bl dl Bo do_) TVAL)).alloc (.cells (cC c Ap cp Al cl Ao co) TCMP)) TVAL #[.int .u8 0, .int .i64 0, .string ⟨#[]⟩, .slice none 0 0, .slice none 0 0]
  rw [World.size_alloc, World.size_alloc, hW] at this
  exact this
 have HV := hid (show VAt W (fun k => k < w.heap.size) (.agg (vC v Bl dl Bo do_)) v from VAt.more ⟨_, _, rfl, k1.ext EVal.ok hE, k2.ext EField.ok hE⟩ fun k _ h => h.2)
 have HCC := hid (show CAt W (fun k => k < w.heap.size) (.agg (cC c Ap cp Al cl Ao co)) c from CAt.more ⟨_, _, _, rfl, h1.ext ESt.ok hE, h2.ext EVal.ok hE, h3.ext EField.ok hE⟩ fun k _ h => h.2)
 have HP := hid ((h1.more (S' := fun k => k < w.heap.size) ESt.ok fun k _ h => h.2).ext ESt.ok hE)
 have HE := hid hE
 have HSZ := hid hsz3
 have HCB := hid hcb
 have HB := hid hb
 have HRB := hid hrb
 have HX := hid (hw.ext hE)
 have HVA := hid hva
 have HS := hid hs
 have HG := hid hg
 have HXK := hid hxk
 have HZ := hid hz
 have HXZ := hid hxz
 obtain ⟨y0, y1, y2, y3, y4⟩ := blk5 hb
 obtain ⟨x0, x1, x2, x3, x4, x5, x6, x7, x8, x9, x10, x11⟩ := sq12 hcb
 clear h1 h2 h3 k1 k2 hE hE1 hE2 hE3 hsz3 hb hcb hrb hw hva hs hg hxk hz hxz hc hv
 go_enter Tryd.func52, Tryd.ntmps52
 go_wp2_with fail
 refine (rcheck6_ok _ HVA.out W HX.out _ _ _ _ v x c HV.out HCC.out HS.out HG.out hsz (fun w1 S3 S4 u1 t1 he h1 h2 => rkinds_text w1 S3 S4 u1 t1 x c h1 h2 HA.out HXK.out (HD.out.ext he) HT.out)).mono ?_
 rintro e W2 ⟨rfl, hE2⟩
 have hcb := HCB.out.keep hE2 id
 have hb := HB.out.keep hE2 id
 have HRB2 := hid (HRB.out.keep hE2 id)
 have HVS0 := hid HRB2.out.lt
 have HE2 := hid (HE.out.ext hE2)
 have HV2 := hid (HV.out.ext hE2)
 have HC2 := hid (HCC.out.ext hE2)
 have HP2 := hid (HP.out.ext ESt.ok hE2)
 have HCB2 := hid hcb
 have HB2 := hid hb
 clear hE2 hW HV HCC HP HE HX HCB HB HRB y0 y1 y2 y3 y4 x0 x1 x2 x3 x4 x5 x6 x7 x8 x9 x10 x11
 obtain ⟨y0, y1, y2, y3, y4⟩ := blk5 hb
 obtain ⟨x0, x1, x2, x3, x4, x5, x6, x7, x8, x9, x10, x11⟩ := sq12 hcb
 clear hb hcb
 go_wp2_with fail
 refine (rget_new W2 _ _ v c.path _ _ HV2.out HP2.out hsz).mono ?_
 intro e W3 hget
 unfold RGetN at hget
 rw [HG.out] at hget
 obtain ⟨⟨ux, rfl, lq, oq, rfl, q1, q2⟩, hE3⟩ := hget
 obtain ⟨Cl, el, rfl, _⟩ := q1.shape
 obtain ⟨Co, eo, rfl, _⟩ := q2.shape
 have hA : Ext W3 (W3.alloc (.cells (vC x Cl el Co eo) TVAL)) := (Keep.refl _ _).alloc _
 have hxb := Blk.new W3 TVAL (vC x Cl el Co eo)
 have HXL := hid ((q1.more (S' := fun k => W2.heap.size ≤ k ∧ k < W3.heap.size) EVal.ok fun k h1 h2 => ⟨h2, h1⟩).ext EVal.ok hA)
 have HXO := hid ((q2.more (S' := fun k => W2.heap.size ≤ k ∧ k < W3.heap.size) EField.ok fun k h1 h2 => ⟨h2, h1⟩).ext EField.ok hA)
 have HE3 := hid (HE2.out.ext (hE3.ext hA))
 have HC3 := hid (HC2.out.ext (hE3.ext hA))
 have HV3 := hid (HV2.out.ext (hE3.ext hA))
 have HP3 := hid (HP2.out.ext ESt.ok (hE3.ext hA))
 have HS23 := hid hE3.size
 have hcb := HCB2.out.keep (hE3.ext hA) id
 have HCB3 := hid hcb
 have HB3 := hid (HB2.out.keep (hE3.ext hA) id)
 have HRB3 := hid (HRB2.out.keep (hE3.ext hA) id)
 have HXB := hid hxb
 clear q1 q2 hE3 hA HV2 HC2 HP2 HE2 HCB2 HB2 HRB2 y0 y1 y2 y3 y4 x0 x1 x2 x3 x4 x5 x6 x7 x8 x9 x10 x11
 obtain ⟨y0, y1, y2, y3, y4⟩ := blk5 hxb
 obtain ⟨x0, x1, x2, x3, x4, x5, x6, x7, x8, x9, x10, x11⟩ := sq12 hcb
 clear hxb hcb
 rcases HKK.out with hk | hk
 all_goals
  have hc3 := HC3.out
  simp only [cC, cpCells] at hc3
  rw [hk] at hc3 x0
  have HC3K := hid hc3
  clear hc3 hk
  have HX4 := hid (HX0.out.ext HE3.out)
  go_wp2_with fail
  generalize W3.alloc (.cells (vC x Cl el Co eo) TVAL) = W4 at *
  refine (rtdo_any x.s HA.out _ _ c W4 (HD.out.ext HX4.out) HC3K.out HT.out HCS.out).mono ?_
  rintro e W5 ⟨rfl, hE5⟩
  have hs5 := hE5.size
  have hxb := HXB.out.keep hE5 id
  have z4 := hxb.cell 2
  have g4 := hxb.frozen 2
  simp at z4
  have HVS : w.heap.size + 2 < W2.heap.size := HVS0.out
  have hw34 : W2.heap.size ≤ W3.heap.size := HS23.out
  have hwx : W3.heap.size < W4.heap.size := HXB.out.lt
  obtain ⟨X, hX⟩ : ∃ X, W5.setCell ⟨W3.heap.size, 2, none⟩ (.string (textD x.s c)) = X := ⟨_, rfl⟩
  have hkx : Keep (· = W3.heap.size) W5 X := by rw [← hX]; exact (Keep.refl (· = W3.heap.size) W5).set1 2 _
  have hxb2 : Blk X W3.heap.size TVAL #[U8 x.kind, .int .i64 x.n, .string (textD x.s c), .slice Cl x.l.length el, .slice Co x.o.length eo] := by rw [← hX]; exact hxb.set_ 2 (.string (textD x.s c))
  have HVX := hid (show VAt X (fun _ => True) (.agg #[U8 x.kind, .int .i64 x.n, .string (textD x.s c), .slice Cl x.l.length el, .slice Co x.o.length eo]) (.mk x.kind x.n (textD x.s c) x.l x.o) from ⟨_, _, rfl, (((HXL.out.ext EVal.ok hE5).keep EVal.ok hkx fun k h e => by omega).more EVal.ok fun _ _ _ => trivial), (((HXO.out.ext EField.ok hE5).keep EField.ok hkx fun k h e => by omega).more EField.ok fun _ _ _ => trivial)⟩)
  have hEX : Ext w X := (HE3.out.ext hE5).trans hkx fun k hk e => by omega
  have HEX := hid hEX
  have HVV := hid ((HV3.out.ext hE5).keep hkx fun k h e => by omega)
  have HPP := hid ((HP3.out.ext ESt.ok hE5).keep ESt.ok hkx fun k h e => by omega)
  have HRX := hid ((HRB3.out.keep hE5 id).keep hkx (by omega))
  have hvb := (HB3.out.keep hE5 id).keep hkx (by omega)
  have hcb := (HCB3.out.keep hE5 id).keep hkx (by omega)
  clear y0 y1 y2 y3 y4 x0 x1 x2 x3 x4 x5 x6 x7 x8 x9 x10 x11
  obtain ⟨y0, y1, y2, y3, y4⟩ := blk5 hvb
  obtain ⟨q0, q1, q2, q3, q4⟩ := blk5 hxb2
  have x1 := hcb.cell 1
  simp at x1
  clear hkx hxb hxb2 hE5 hEX hvb hcb HXL HXO HE3 HC3 HV3 HP3 HCB3 HB3 HRB3 HXB HC3K HS HG HVA HS23
  go_wp2_with fail
  refine (rput_ok c.path X _ _ _ v (.mk x.kind x.n (textD x.s c) x.l x.o) _ _ _ HVV.out HVX.out HPP.out hsz HXZ.out).mono ?_
  intro e X2 hput
  unfold RPutIs at hput
  rw [HZ.out] at hput
  obtain ⟨⟨uz, rfl, lz, oz, rfl, r1, r2⟩, hE7⟩ := hput
  obtain ⟨Dl, fl, rfl, _⟩ := r1.shape
  obtain ⟨Do, fo, rfl, _⟩ := r2.shape
  have hrb := HRX.out.keep hE7 id
  have hxz := HEX.out.size
  have hsx := HRX.out.lt
  obtain ⟨t0, t1, t2, t3, t4⟩ := sq5 hrb
  obtain ⟨g0, g1, g2, g3, gg4⟩ := sqf5 hrb
  have HK7 := hid (show Keep (· = w.heap.size + 2) X2 (set5 X2 (w.heap.size + 2) 0 (.int .u8 (z.kind.toNat : Int)) (.int .i64 z.n) (.string z.s) (.slice Dl z.l.length fl) (.slice Do z.o.length fo)) from set5_keep _ _ _ _ _ _ _ _)
  have HR1 := hid r1
  have HR2 := hid r2
  have HE7 := hid hE7
  clear r1 r2 hE7 hrb y0 y1 y2 y3 y4 q0 q1 q2 q3 q4 x1 hX z4 g4
  go_wp2
  refine bodyPost_ret (v := .tuple #[.agg (vC z Dl fl Do fo), .int .i64 0]) (by simp [results, Tryd.results52, go_sem, t0, t1, t2, t3, t4]) rfl ?_
  exact ⟨_, rfl, ⟨_, _, _, _, rfl, (HR1.out.keep EVal.ok HK7.out fun k h e => by omega).more EVal.ok fun k _ h => by omega, (HR2.out.keep EField.ok HK7.out fun k h e => by omega).more EField.ok fun k _ h => by omega⟩, (HEX.out.ext HE7.out).trans HK7.out fun k hk e => by omega⟩
theorem rdo6_list (w0 : World) (hva : ValAny w0) (w : World) (hw : Ext w0 w) (S S2 : BS) (u t : Value) (v x z : V) (c : Cp) (hv : VAt w S u v) (hc : CAt w S2 t c) (hs : Snd6 c) (hg : getV v c.path = some x) (hsz : v.size ≤ 1000000)
  (hxl : x.l.length ≤ 100000) (hxs : V.sizes x.l ≤ 900000) (hxk : x.kind = 4) (ys : List V) (hd : doL x.l ⟨c.kind, c.i, c.j, c.v⟩ = some ys) (hz : putV v c.path (.mk x.kind x.n x.s ys x.o) = some z) (hxz : (.mk x.kind x.n x.s ys x.o : V).size ≤ 1000000) :
  Calls Tryd.prog 52 #[u, t] w (Do6Is w z) := by
 have HX0 := hid hw
 have HXLL := hid hxl
 have HXS := hid hxs
 have HD := hid hd
 have hck : checkL x.l.length c.kind c.i c.j = 0 := by
  by_cases hk : checkL x.l.length c.kind c.i c.j = 0
  ·exact hk
  ·unfold doL at hd; rw [if_neg hk] at hd; cases hd
 have HCK := hid hck
 have hkk : c.kind = 4 ∨ c.kind = 5 ∨ c.kind = 6 ∨ c.kind = 7 := by rcases check_ok hck with h | h | h | h <;> simp [h.1]
 have HKK := hid hkk
 clear hxl hxs hd hck hkk
 obtain ⟨pv, lv, ov, rfl, h1, h2, h3⟩ := hc.cut
 obtain ⟨Ap, cp, rfl, _⟩ := h1.shape
 obtain ⟨Al, cl, rfl, _⟩ := h2.shape
 obtain ⟨Ao, co, rfl, _⟩ := h3.shape
 obtain ⟨lx, ox, rfl, k1, k2⟩ := hv.cut
 obtain ⟨Bl, dl, rfl, _⟩ := k1.shape
 obtain ⟨Bo, do_, rfl, _⟩ := k2.shape
 obtain ⟨W, hW⟩ : ∃ W, ((w.alloc (.cells (vC v Bl dl Bo do_) TVAL)).alloc (.cells (cC c Ap cp Al cl Ao co) TCMP)).alloc (.cells #[.int .u8 0, .int .i64 0, .string ⟨#[]⟩, .slice none 0 0, .slice none 0 0] TVAL) = W := ⟨_, rfl⟩
 have hE1 : Ext w (w.alloc (.cells (vC v Bl dl Bo do_) TVAL)) := (Keep.refl _ _).alloc _
 have hE2 : Ext (w.alloc (.cells (vC v Bl dl Bo do_) TVAL)) ((w.alloc (.cells (vC v Bl dl Bo do_) TVAL)).alloc (.cells (cC c Ap cp Al cl Ao co) TCMP)) := (Keep.refl _ _).alloc _
 have hE3 : Ext ((w.alloc (.cells (vC v Bl dl Bo do_) TVAL)).alloc (.cells (cC c Ap cp Al cl Ao co) TCMP)) W := by rw [← hW]; exact (Keep.refl _ _).alloc _
 have hE : Ext w W := (hE1.ext hE2).ext hE3
 have hsz3 : W.heap.size = w.heap.size + 3 := by rw [← hW]; simp
 have hb : Blk W w.heap.size TVAL (vC v Bl dl Bo do_) := ((Blk.new _ _ _).keep hE2 id).keep hE3 id
 have hcb : Blk W (w.heap.size + 1) TCMP (cC c Ap cp Al cl Ao co) := by
  have := Blk.new (w.alloc (.cells (vC v Bl dl Bo do_) TVAL)) TCMP (cC c Ap cp Al cl Ao co)
  rw [World.size_alloc] at this
  exact this.keep hE3 id
 have hrb : Blk W (w.heap.size + 2) TVAL #[.int .u8 0, .int .i64 0, .string ⟨#[]⟩, .slice none 0 0, .slice none 0 0] := by
  have := Blk.new ((w.alloc (.cells (vC v Bl dl Bo do_) TVAL)).alloc (.cells (cC c Ap cp Al cl Ao co) TCMP)) TVAL #[.int .u8 0, .int .i64 0, .string ⟨#[]⟩, .slice none 0 0, .slice none 0 0]
  rw [World.size_alloc, World.size_alloc, hW] at this
  exact this
 have HV := hid (show VAt W (fun k => k < w.heap.size) (.agg (vC v Bl dl Bo do_)) v from VAt.more ⟨_, _, rfl, k1.ext EVal.ok hE, k2.ext EField.ok hE⟩ fun k _ h => h.2)
 have HCC := hid (show CAt W (fun k => k < w.heap.size) (.agg (cC c Ap cp Al cl Ao co)) c from CAt.more ⟨_, _, _, rfl, h1.ext ESt.ok hE, h2.ext EVal.ok hE, h3.ext EField.ok hE⟩ fun k _ h => h.2)
 have HP := hid ((h1.more (S' := fun k => k < w.heap.size) ESt.ok fun k _ h => h.2).ext ESt.ok hE)
 have HE := hid hE
 have HSZ := hid hsz3
 have HCB := hid hcb
 have HB := hid hb
 have HRB := hid hrb
 have HX := hid (hw.ext hE)
 have HVA := hid hva
 have HS := hid hs
 have HG := hid hg
 have HXK := hid hxk
 have HZ := hid hz
 have HXZ := hid hxz
 obtain ⟨y0, y1, y2, y3, y4⟩ := blk5 hb
 obtain ⟨x0, x1, x2, x3, x4, x5, x6, x7, x8, x9, x10, x11⟩ := sq12 hcb
 clear h1 h2 h3 k1 k2 hE hE1 hE2 hE3 hsz3 hb hcb hrb hw hva hs hg hxk hz hxz hc hv
 go_enter Tryd.func52, Tryd.ntmps52
 go_wp2_with fail
 refine (rcheck6_ok _ HVA.out W HX.out _ _ _ _ v x c HV.out HCC.out HS.out HG.out hsz (fun w1 S3 S4 u1 t1 he h1 h2 => rkinds_list w1 S3 S4 u1 t1 x c h1 h2 HXLL.out HXK.out HCK.out)).mono ?_
 rintro e W2 ⟨rfl, hE2⟩
 have hcb := HCB.out.keep hE2 id
 have hb := HB.out.keep hE2 id
 have HRB2 := hid (HRB.out.keep hE2 id)
 have HVS0 := hid HRB2.out.lt
 have HE2 := hid (HE.out.ext hE2)
 have HV2 := hid (HV.out.ext hE2)
 have HC2 := hid (HCC.out.ext hE2)
 have HP2 := hid (HP.out.ext ESt.ok hE2)
 have HCB2 := hid hcb
 have HB2 := hid hb
 clear hE2 hW HV HCC HP HE HX HCB HB HRB y0 y1 y2 y3 y4 x0 x1 x2 x3 x4 x5 x6 x7 x8 x9 x10 x11
 obtain ⟨y0, y1, y2, y3, y4⟩ := blk5 hb
 obtain ⟨x0, x1, x2, x3, x4, x5, x6, x7, x8, x9, x10, x11⟩ := sq12 hcb
 clear hb hcb
 go_wp2_with fail
 refine (rget_new W2 _ _ v c.path _ _ HV2.out HP2.out hsz).mono ?_
 intro e W3 hget
 unfold RGetN at hget
 rw [HG.out] at hget
 obtain ⟨⟨ux, rfl, lq, oq, rfl, q1, q2⟩, hE3⟩ := hget
 obtain ⟨Cl, el, rfl, _⟩ := q1.shape
 obtain ⟨Co, eo, rfl, _⟩ := q2.shape
 have hA : Ext W3 (W3.alloc (.cells (vC x Cl el Co eo) TVAL)) := (Keep.refl _ _).alloc _
 have hxb := Blk.new W3 TVAL (vC x Cl el Co eo)
 have HXL := hid ((q1.more (S' := fun k => W2.heap.size ≤ k ∧ k < W3.heap.size) EVal.ok fun k h1 h2 => ⟨h2, h1⟩).ext EVal.ok hA)
 have HXO := hid ((q2.more (S' := fun k => W2.heap.size ≤ k ∧ k < W3.heap.size) EField.ok fun k h1 h2 => ⟨h2, h1⟩).ext EField.ok hA)
 have HE3 := hid (HE2.out.ext (hE3.ext hA))
 have HC3 := hid (HC2.out.ext (hE3.ext hA))
 have HV3 := hid (HV2.out.ext (hE3.ext hA))
 have HP3 := hid (HP2.out.ext ESt.ok (hE3.ext hA))
 have HS23 := hid hE3.size
 have hcb := HCB2.out.keep (hE3.ext hA) id
 have HCB3 := hid hcb
 have HB3 := hid (HB2.out.keep (hE3.ext hA) id)
 have HRB3 := hid (HRB2.out.keep (hE3.ext hA) id)
 have HXB := hid hxb
 clear q1 q2 hE3 hA HV2 HC2 HP2 HE2 HCB2 HB2 HRB2 y0 y1 y2 y3 y4 x0 x1 x2 x3 x4 x5 x6 x7 x8 x9 x10 x11
 obtain ⟨y0, y1, y2, y3, y4⟩ := blk5 hxb
 obtain ⟨x0, x1, x2, x3, x4, x5, x6, x7, x8, x9, x10, x11⟩ := sq12 hcb
 clear hxb hcb
 rcases HKK.out with hk | hk | hk | hk
 all_goals
  have hc3 := HC3.out
  simp only [cC, cpCells] at hc3
  rw [hk] at hc3 x0
  have HC3K := hid hc3
  clear hc3 hk
  have HX4 := hid (HX0.out.ext HE3.out)
  go_wp2_with fail
  generalize W3.alloc (.cells (vC x Cl el Co eo) TVAL) = W4 at *
  refine (rdo5_any x.l ys _ _ _ _ c W4 HXL.out HC3K.out HS.out.size HXLL.out HXS.out HD.out).mono ?_
  rintro e W5 ⟨Df, cf, rfl, hys, hE5⟩
  have hs5 := hE5.size
  have hxb := HXB.out.keep hE5 id
  have z4 := hxb.cell 3
  have g4 := hxb.frozen 3
  simp at z4
  have HVS : w.heap.size + 2 < W2.heap.size := HVS0.out
  have hw34 : W2.heap.size ≤ W3.heap.size := HS23.out
  have hwx : W3.heap.size < W4.heap.size := HXB.out.lt
  have HYS := hid hys
  clear hys
  obtain ⟨X, hX⟩ : ∃ X, W5.setCell ⟨W3.heap.size, 3, none⟩ (.slice Df ys.length cf) = X := ⟨_, rfl⟩
  have hkx : Keep (· = W3.heap.size) W5 X := by rw [← hX]; exact (Keep.refl (· = W3.heap.size) W5).set1 3 _
  have hxb2 : Blk X W3.heap.size TVAL #[U8 x.kind, .int .i64 x.n, .string x.s, .slice Df ys.length cf, .slice Co x.o.length eo] := by rw [← hX]; exact hxb.set_ 3 (.slice Df ys.length cf)
  have HVX := hid (show VAt X (fun _ => True) (.agg #[U8 x.kind, .int .i64 x.n, .string x.s, .slice Df ys.length cf, .slice Co x.o.length eo]) (.mk x.kind x.n x.s ys x.o) from ⟨_, _, rfl, ((HYS.out.keep EVal.ok hkx fun k h e => by have h : W4.heap.size ≤ k := h; omega).more EVal.ok fun _ _ _ => trivial), (((HXO.out.ext EField.ok hE5).keep EField.ok hkx fun k h e => by omega).more EField.ok fun _ _ _ => trivial)⟩)
  have hEX : Ext w X := (HE3.out.ext hE5).trans hkx fun k hk e => by omega
  have HEX := hid hEX
  have HVV := hid ((HV3.out.ext hE5).keep hkx fun k h e => by omega)
  have HPP := hid ((HP3.out.ext ESt.ok hE5).keep ESt.ok hkx fun k h e => by omega)
  have HRX := hid ((HRB3.out.keep hE5 id).keep hkx (by omega))
  have hvb := (HB3.out.keep hE5 id).keep hkx (by omega)
  have hcb := (HCB3.out.keep hE5 id).keep hkx (by omega)
  clear y0 y1 y2 y3 y4 x0 x1 x2 x3 x4 x5 x6 x7 x8 x9 x10 x11
  obtain ⟨y0, y1, y2, y3, y4⟩ := blk5 hvb
  obtain ⟨q0, q1, q2, q3, q4⟩ := blk5 hxb2
  have x1 := hcb.cell 1
  simp at x1
  clear hkx hxb hxb2 hE5 hEX hvb hcb HXL HXO HE3 HC3 HV3 HP3 HCB3 HB3 HRB3 HXB HC3K HS HG HVA HS23
  go_wp2_with fail
  refine (rput_ok c.path X _ _ _ v (.mk x.kind x.n x.s ys x.o) _ _ _ HVV.out HVX.out HPP.out hsz HXZ.out).mono ?_
  intro e X2 hput
  unfold RPutIs at hput
  rw [HZ.out] at hput
  obtain ⟨⟨uz, rfl, lz, oz, rfl, r1, r2⟩, hE7⟩ := hput
  obtain ⟨Dl, fl, rfl, _⟩ := r1.shape
  obtain ⟨Do, fo, rfl, _⟩ := r2.shape
  have hrb := HRX.out.keep hE7 id
  have hxz := HEX.out.size
  have hsx := HRX.out.lt
  obtain ⟨t0, t1, t2, t3, t4⟩ := sq5 hrb
  obtain ⟨g0, g1, g2, g3, gg4⟩ := sqf5 hrb
  have HK7 := hid (show Keep (· = w.heap.size + 2) X2 (set5 X2 (w.heap.size + 2) 0 (.int .u8 (z.kind.toNat : Int)) (.int .i64 z.n) (.string z.s) (.slice Dl z.l.length fl) (.slice Do z.o.length fo)) from set5_keep _ _ _ _ _ _ _ _)
  have HR1 := hid r1
  have HR2 := hid r2
  have HE7 := hid hE7
  clear r1 r2 hE7 hrb y0 y1 y2 y3 y4 q0 q1 q2 q3 q4 x1 hX z4 g4
  go_wp2
  refine bodyPost_ret (v := .tuple #[.agg (vC z Dl fl Do fo), .int .i64 0]) (by simp [results, Tryd.results52, go_sem, t0, t1, t2, t3, t4]) rfl ?_
  exact ⟨_, rfl, ⟨_, _, _, _, rfl, (HR1.out.keep EVal.ok HK7.out fun k h e => by omega).more EVal.ok fun k _ h => by omega, (HR2.out.keep EField.ok HK7.out fun k h e => by omega).more EField.ok fun k _ h => by omega⟩, (HEX.out.ext HE7.out).trans HK7.out fun k hk e => by omega⟩
def Does (w0 : World) (v : V) (c : Cp) (z : V) : Prop := ∀ (w : World) (S S2 : BS) (u t : Value), Ext w0 w → VAt w S u v → CAt w S2 t c → Calls Tryd.prog 52 #[u, t] w (Do6Is w z)
inductive DoesL (w0 : World) : V → List Cp → V → Prop
 | nil (v : V) : DoesL w0 v [] v
 | cons {v y z : V} {c : Cp} {cs : List Cp} : Does w0 v c y → DoesL w0 y cs z → DoesL w0 v (c :: cs) z
theorem DoesL.head {w0 : World} {v z : V} {c : Cp} {cs : List Cp} (h : DoesL w0 v (c :: cs) z) : ∃ y, Does w0 v c y ∧ DoesL w0 y cs z := by
 cases h with
 | cons h1 h2 => exact ⟨_, h1, h2⟩
theorem Do6Is.out {w w' : World} {z : V} {e : Ending} (h : Do6Is w z e w') : ∃ u, e = .returned u ∧ Ext w w' ∧ OutE z 0 w.heap.size w'.heap.size u w' := by
 obtain ⟨u, rfl, ⟨A, a, B, b, rfl, h1, h2⟩, hE⟩ := h
 exact ⟨_, rfl, hE, A, a, B, b, rfl, _, _, rfl, h1.more EVal.ok fun k h1 h2 => ⟨h2, h1⟩, h2.more EField.ok fun k h1 h2 => ⟨h2, h1⟩⟩
def DoneIs (w : World) (S : BS) (z : V) (e : Ending) (w' : World) : Prop := ∃ A a B b, e = .returned (.tuple #[.agg (vC z A a B b), .bool true]) ∧ VAt w' (fun q => S q ∨ w.heap.size ≤ q) (.agg (vC z A a B b)) z ∧ Ext w w'
end Go.Proofs.YtggkidnlmaindaaDoor
