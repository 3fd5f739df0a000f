/- Do6C: laid together. -/
import Derived.Test.YtioplgfopillnaaDoorTiB23
import Derived.Test.YtioplgfopillnaaDoorTiB19
/- The reference's kinds (of what an object asks) and Check of a component. -/
set_option linter.unusedSimpArgs false
set_option linter.unusedVariables false
namespace Go.Proofs.YtioplgfopillnaaDoor
open Go.RowKit
set_option linter.unusedVariables false

set_option maxRecDepth 20000 in
set_option maxHeartbeats 1600000 in
theorem rkinds_put (w : World) (S S2 : BS) (u t : Value) (x : V) (c : Cp) (hx : VAt w S u x) (hc : CAt w S2 t c) (hk : c.kind = 2 ∨ (c.kind = 3 ∧ fieldIs x.o c.key = true)) (hxk : x.kind = 5) :
    Calls Tryd.prog 71 #[u, t] w fun e w' => e = .returned (.int .i64 0) ∧ Ext w w' := by
  obtain ⟨pv, lv, ov, rfl, h1, h2, h3⟩ := hc
  obtain ⟨Ap, cp, rfl, _⟩ := h1.shape
  obtain ⟨Al, cl, rfl, _⟩ := h2.shape
  obtain ⟨Ao, co, rfl, _⟩ := h3.shape
  obtain ⟨lx, ox, rfl, k1, k2⟩ := hx
  obtain ⟨Bl, dl, rfl, _⟩ := k1.shape
  obtain ⟨Bo, do_, rfl, _⟩ := k2.shape
  obtain ⟨W, hW⟩ : ∃ W, (w.alloc (.cells #[U8 x.kind, .int .i64 x.n, .string x.s, .slice Bl x.l.length dl, .slice Bo x.o.length do_] TVAL)).alloc (.cells (cpCells c (.slice Ap c.path.length cp) (.slice Al c.v.l.length cl) (.slice Ao c.v.o.length co)) TCMP) = W := ⟨_, rfl⟩
  have hE : Ext w W := by rw [← hW]; exact ((Keep.refl _ _).alloc _).alloc _
  have hb : Blk W w.heap.size TVAL #[U8 x.kind, .int .i64 x.n, .string x.s, .slice Bl x.l.length dl, .slice Bo x.o.length do_] := by rw [← hW]; exact (Blk.new _ _ _).alloc _
  have hcb : Blk W (w.heap.size + 1) TCMP (cpCells c (.slice Ap c.path.length cp) (.slice Al c.v.l.length cl) (.slice Ao c.v.o.length co)) := by
    have := Blk.new (w.alloc (.cells #[U8 x.kind, .int .i64 x.n, .string x.s, .slice Bl x.l.length dl, .slice Bo x.o.length do_] TVAL)) TCMP (cpCells c (.slice Ap c.path.length cp) (.slice Al c.v.l.length cl) (.slice Ao c.v.o.length co))
    rw [World.size_alloc, hW] at this
    exact this
  have HV := hid (show VAt W S (.agg #[U8 x.kind, .int .i64 x.n, .string x.s, .slice Bl x.l.length dl, .slice Bo x.o.length do_]) x from ⟨_, _, rfl, k1.ext EVal.ok hE, k2.ext EField.ok hE⟩)
  have HE := hid hE
  have HCB := hid hcb
  have HB := hid hb
  obtain ⟨y0, y1, y2, y3, y4⟩ := blk5 hb
  have x0 := hcb.cell 0
  have x1 := hcb.cell 1
  have x2 := hcb.cell 2
  have x3 := hcb.cell 3
  have x4 := hcb.cell 4
  have x5 := hcb.cell 5
  have x6 := hcb.cell 6
  have x7 := hcb.cell 7
  have x8 := hcb.cell 8
  have x9 := hcb.cell 9
  have x10 := hcb.cell 10
  have x11 := hcb.cell 11
  simp at x0 x1 x2 x3 x4 x5 x6 x7 x8 x9 x10 x11
  clear h1 h2 h3 k1 k2 hE hb hcb
  have HXK := hid hxk
  clear hxk
  have hcall := rfield_val W S _ x c.key HV.out
  obtain ⟨fl, hfl⟩ : ∃ fl, fieldL x.o c.key = fl := ⟨_, rfl⟩
  obtain ⟨fi, hfi⟩ : ∃ fi, fieldIs x.o c.key = fi := ⟨_, rfl⟩
  rw [hfl, hfi] at hcall
  rw [hfi] at hk
  clear hfl hfi
  rcases hk with hk | ⟨hk, rfl⟩
  all_goals
    rw [hk] at x0
    go_enter Tryd.func71, Tryd.ntmps71
    go_wp2_with fail
    refine hcall.mono ?_
    rintro e W2 ⟨rfl, hE2⟩
    have hcb := HCB.out.keep hE2 id
    have hb := HB.out.keep hE2 id
    have HE2 := hid (HE.out.ext hE2)
    clear hE2 hW hcall HV HE HCB HB x0 x1 x2 x3 x4 x5 x6 x7 x8 x9 x10 x11 y0 y1 y2 y3 y4
    obtain ⟨y0, y1, y2, y3, y4⟩ := blk5 hb
    rw [HXK.out] at y0
    have x0 := hcb.cell 0
    have x2 := hcb.cell 2
    simp at x0 x2
    rw [hk] at x0
    clear hb hcb hk
    go_wp2
    go_ret
    exact ⟨rfl, HE2.out⟩

/-- A component that may be done: what stands at its path, and is of its kind. -/
def KindsOk (x : V) (c : Cp) (w0 : World) : Prop := ∀ (w : World) (S S2 : BS) (u t : Value), Ext w0 w → VAt w S u x → CAt w S2 t c → Calls Tryd.prog 71 #[u, t] w fun e w' => e = .returned (.int .i64 0) ∧ Ext w w'
set_option maxRecDepth 20000 in
set_option maxHeartbeats 1600000 in
theorem rcheck6_ok (w0 : World) (hva : ValAny w0) (w : World) (hw : Ext w0 w) (S S2 : BS) (u t : Value) (v x : V) (c : Cp) (hv : VAt w S u v) (hc : CAt w S2 t c) (hs : Snd6 c) (hg : getV v c.path = some x) (hsz : v.size ≤ 1000000) (hk : KindsOk x c w0) :
    Calls Tryd.prog 46 #[u, t] w fun e w' => e = .returned (.int .i64 0) ∧ Ext w w' := by
  obtain ⟨pv, lv, ov, rfl, h1, h2, h3⟩ := hc
  obtain ⟨Ap, cp, rfl, _⟩ := h1.shape
  obtain ⟨Al, cl, rfl, _⟩ := h2.shape
  obtain ⟨Ao, co, rfl, _⟩ := h3.shape
  obtain ⟨lx, ox, rfl, k1, k2⟩ := hv
  obtain ⟨Bl, dl, rfl, _⟩ := k1.shape
  obtain ⟨Bo, do_, rfl, _⟩ := k2.shape
  obtain ⟨W, hW⟩ : ∃ W, (w.alloc (.cells #[U8 v.kind, .int .i64 v.n, .string v.s, .slice Bl v.l.length dl, .slice Bo v.o.length do_] TVAL)).alloc (.cells (cpCells c (.slice Ap c.path.length cp) (.slice Al c.v.l.length cl) (.slice Ao c.v.o.length co)) TCMP) = W := ⟨_, rfl⟩
  have hE : Ext w W := by rw [← hW]; exact ((Keep.refl _ _).alloc _).alloc _
  have hb : Blk W w.heap.size TVAL #[U8 v.kind, .int .i64 v.n, .string v.s, .slice Bl v.l.length dl, .slice Bo v.o.length do_] := by rw [← hW]; exact (Blk.new _ _ _).alloc _
  have hcb : Blk W (w.heap.size + 1) TCMP (cpCells c (.slice Ap c.path.length cp) (.slice Al c.v.l.length cl) (.slice Ao c.v.o.length co)) := by
    have := Blk.new (w.alloc (.cells #[U8 v.kind, .int .i64 v.n, .string v.s, .slice Bl v.l.length dl, .slice Bo v.o.length do_] TVAL)) TCMP (cpCells c (.slice Ap c.path.length cp) (.slice Al c.v.l.length cl) (.slice Ao c.v.o.length co))
    rw [World.size_alloc, hW] at this
    exact this
  have HV := hid (show VAt W S (.agg #[U8 v.kind, .int .i64 v.n, .string v.s, .slice Bl v.l.length dl, .slice Bo v.o.length do_]) v from ⟨_, _, rfl, k1.ext EVal.ok hE, k2.ext EField.ok hE⟩)
  have HCC := hid (show CAt W S2 (.agg (cpCells c (.slice Ap c.path.length cp) (.slice Al c.v.l.length cl) (.slice Ao c.v.o.length co))) c from ⟨_, _, _, rfl, h1.ext ESt.ok hE, h2.ext EVal.ok hE, h3.ext EField.ok hE⟩)
  have HP := hid (h1.ext ESt.ok hE)
  have HE := hid hE
  have HCB := hid hcb
  have HB := hid hb
  have HX := hid (hw.ext hE)
  have HVA := hid hva
  have HS := hid hs
  have HG := hid hg
  have HK := hid hk
  obtain ⟨y0, y1, y2, y3, y4⟩ := blk5 hb
  have x0 := hcb.cell 0
  have x1 := hcb.cell 1
  have x2 := hcb.cell 2
  have x3 := hcb.cell 3
  have x4 := hcb.cell 4
  have x5 := hcb.cell 5
  have x6 := hcb.cell 6
  have x7 := hcb.cell 7
  have x8 := hcb.cell 8
  have x9 := hcb.cell 9
  have x10 := hcb.cell 10
  have x11 := hcb.cell 11
  simp at x0 x1 x2 x3 x4 x5 x6 x7 x8 x9 x10 x11
  clear h1 h2 h3 k1 k2 hE hb hcb hw hva hs hg hk
  go_enter Tryd.func46, Tryd.ntmps46
  go_wp2_with fail
  refine (rsound6_ok _ HVA.out W HX.out _ _ c HCC.out HS.out).mono ?_
  rintro e W2 ⟨rfl, hE2⟩
  have hcb := HCB.out.keep hE2 id
  have hb := HB.out.keep hE2 id
  have HE2 := hid (HE.out.ext hE2)
  have HX2 := hid (HX.out.ext hE2)
  have HV2 := hid (HV.out.ext hE2)
  have HC2 := hid (HCC.out.ext hE2)
  have HP2 := hid (HP.out.ext ESt.ok hE2)
  have HCB2 := hid hcb
  clear hE2 hW HV HCC HP HE HX HCB HB y0 y1 y2 y3 y4 x0 x1 x2 x3 x4 x5 x6 x7 x8 x9 x10 x11
  obtain ⟨y0, y1, y2, y3, y4⟩ := blk5 hb
  have x0 := hcb.cell 0
  have x1 := hcb.cell 1
  have x2 := hcb.cell 2
  have x3 := hcb.cell 3
  have x4 := hcb.cell 4
  have x5 := hcb.cell 5
  have x6 := hcb.cell 6
  have x7 := hcb.cell 7
  have x8 := hcb.cell 8
  have x9 := hcb.cell 9
  have x10 := hcb.cell 10
  have x11 := hcb.cell 11
  simp at x0 x1 x2 x3 x4 x5 x6 x7 x8 x9 x10 x11
  clear hb hcb
  go_wp2_with fail
  refine (rget_new W2 _ _ v c.path _ _ HV2.out HP2.out hsz).mono ?_
  intro e W3 hget
  unfold RGetN at hget
  rw [HG.out] at hget
  obtain ⟨⟨ux, rfl, lq, oq, rfl, q1, q2⟩, hE3⟩ := hget
  obtain ⟨Cl, el, rfl, _⟩ := q1.shape
  obtain ⟨Co, eo, rfl, _⟩ := q2.shape
  have hA : Ext W3 (W3.alloc (.cells #[U8 x.kind, .int .i64 x.n, .string x.s, .slice Cl x.l.length el, .slice Co x.o.length eo] TVAL)) := (Keep.refl _ _).alloc _
  have hxb := Blk.new W3 TVAL #[U8 x.kind, .int .i64 x.n, .string x.s, .slice Cl x.l.length el, .slice Co x.o.length eo]
  have HXV := hid (show VAt (W3.alloc (.cells #[U8 x.kind, .int .i64 x.n, .string x.s, .slice Cl x.l.length el, .slice Co x.o.length eo] TVAL)) (fun _ => True) (.agg #[U8 x.kind, .int .i64 x.n, .string x.s, .slice Cl x.l.length el, .slice Co x.o.length eo]) x from ⟨_, _, rfl, (q1.more (S' := fun _ => True) EVal.ok fun _ _ _ => trivial).ext EVal.ok hA, (q2.more (S' := fun _ => True) EField.ok fun _ _ _ => trivial).ext EField.ok hA⟩)
  have HE3 := hid (HE2.out.ext (hE3.ext hA))
  have HX3 := hid (HX2.out.ext (hE3.ext hA))
  have HC3 := hid (HC2.out.ext (hE3.ext hA))
  have hcb := HCB2.out.keep (hE3.ext hA) id
  clear q1 q2 hE3 hA HV2 HC2 HP2 HE2 HX2 y0 y1 y2 y3 y4 x0 x1 x2 x3 x4 x5 x6 x7 x8 x9 x10 x11
  obtain ⟨y0, y1, y2, y3, y4⟩ := blk5 hxb
  have x0 := hcb.cell 0
  have x1 := hcb.cell 1
  have x2 := hcb.cell 2
  have x3 := hcb.cell 3
  have x4 := hcb.cell 4
  have x5 := hcb.cell 5
  have x6 := hcb.cell 6
  have x7 := hcb.cell 7
  have x8 := hcb.cell 8
  have x9 := hcb.cell 9
  have x10 := hcb.cell 10
  have x11 := hcb.cell 11
  simp at x0 x1 x2 x3 x4 x5 x6 x7 x8 x9 x10 x11
  clear hxb hcb
  go_wp2_with fail
  generalize W3.alloc (.cells #[U8 x.kind, .int .i64 x.n, .string x.s, .slice Cl x.l.length el, .slice Co x.o.length eo] TVAL) = W4 at *
  refine (HK.out W4 _ _ _ _ HX3.out HXV.out HC3.out).mono ?_
  rintro e W5 ⟨rfl, hE5⟩
  go_wp2
  go_ret
  exact ⟨rfl, HE3.out.ext hE5⟩
end Go.Proofs.YtioplgfopillnaaDoor
