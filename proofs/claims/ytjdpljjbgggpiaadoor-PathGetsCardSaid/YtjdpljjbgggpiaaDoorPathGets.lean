/- Get and Put of any value and path: the walk. -/
import Derived.Test.YtjdpljjbgggpiaaDoorRefPut
import Derived.Test.YtjdpljjbgggpiaaDoorLawRaw
set_option linter.unusedSimpArgs false
set_option linter.unusedVariables false
namespace Go.Proofs.YtjdpljjbgggpiaaDoor
open Go.RowKit
set_option linter.unusedVariables false
theorem get_two (v : V) (p : List St) : ∃ (y : V) (err : Int), (0 ≤ err ∧ err ≤ 30) ∧ (∀ (w w' : World) (e : Ending), GetIs w (getV v p) e w' → ∃ u, e = .returned (.tuple #[u, .int .u16 err]) ∧ VAt w' (fun _ => True) u y ∧ Ext w w') ∧
    (∀ (w w' : World) (e : Ending), RGetIs v p w e w' → ∃ u, e = .returned (.tuple #[u, .int .i64 err]) ∧ VAt w' (fun _ => True) u y ∧ Ext w w') := by
  cases h : getV v p with
  | none =>
    refine ⟨.mk 0 0 ⟨#[]⟩ [] [], 30, by omega, fun w w' e hg => ?_, fun w w' e hg => ?_⟩
    · obtain ⟨h1, h2⟩ := hg
      exact ⟨_, h1, flat_at _ _ 0 _ _, h2⟩
    · obtain ⟨h1, h2⟩ := hg
      rw [h] at h1
      exact ⟨_, h1, flat_at _ _ 0 _ _, h2⟩
  | some y =>
    refine ⟨y, 0, by omega, fun w w' e hg => hg.val, fun w w' e hg => ?_⟩
    obtain ⟨h1, h2⟩ := hg
    rw [h] at h1
    obtain ⟨u, h3, h4⟩ := h1
    exact ⟨u, h3, h4, h2⟩
theorem put_two (v : V) (p : List St) (x : V) : ∃ (y : V) (err : Int), (0 ≤ err ∧ err ≤ 30) ∧ (∀ (w w' : World) (e : Ending), PutIs w (putV v p x) e w' → ∃ u, e = .returned (.tuple #[u, .int .u16 err]) ∧ VAt w' (fun _ => True) u y ∧ Ext w w') ∧
    (∀ (w w' : World) (e : Ending), RPutIs v p x w e w' → ∃ u, e = .returned (.tuple #[u, .int .i64 err]) ∧ VAt w' (fun _ => True) u y ∧ Ext w w') := by
  cases h : putV v p x with
  | none =>
    refine ⟨.mk 0 0 ⟨#[]⟩ [] [], 30, by omega, fun w w' e hg => ?_, fun w w' e hg => ?_⟩
    · obtain ⟨h1, h2⟩ := hg
      exact ⟨_, h1, flat_at _ _ 0 _ _, h2⟩
    · obtain ⟨h1, h2⟩ := hg
      rw [h] at h1
      exact ⟨_, h1, flat_at _ _ 0 _ _, h2⟩
  | some y =>
    refine ⟨y, 0, by omega, fun w w' e hg => ?_, fun w w' e hg => ?_⟩
    · obtain ⟨u, h1, h2, h3⟩ := hg
      exact ⟨u, h1, h2.more fun _ _ _ => trivial, h3⟩
    · obtain ⟨h1, h2⟩ := hg
      rw [h] at h1
      obtain ⟨u, h3, h4⟩ := h1
      exact ⟨u, h3, h4.more fun _ _ _ => trivial, h2⟩
set_option maxHeartbeats 12800000 in
theorem gets_walk (lv pv mv : Value) (ts : List Tk) (p : List St) (ms : List Tk) (w : World) (hl : Sl ETok w (fun _ => True) lv ts) (hp : Sl ESt w (fun _ => True) pv p) (hm : Sl ETok w (fun _ => True) mv ms) :
    Calls Tryd.prog 5 #[lv, pv, mv] w fun e w' => e = .returned (.bool true) ∧ Ext w w' := by
  obtain ⟨A, c, rfl, _, _⟩ := hl.shape
  obtain ⟨Ap, cp, rfl, _, _⟩ := hp.shape
  obtain ⟨Am, cm, rfl, _, _⟩ := hm.shape
  have HL := hid hl
  have HPp := hid hp
  have HM := hid hm
  clear hl hp hm
  go_enter Tryd.func5, Tryd.ntmps5
  have hend : ∀ wx, Ext w wx → Calls Tryd.prog 11 #[] wx fun e w' => e = .returned (.bool true) ∧ Ext w w' := fun wx h => (known3_ok wx).mono fun e w' h2 => ⟨h2.1, h.ext h2.2⟩
  have HEND := hid hend
  clear hend
  have HEW := hid (Keep.refl (fun _ => False) w)
  go_wp2_with fail
  refine (heavy_ok _ _ _ _ _ _ p HL.out HPp.out).mono ?_
  rintro e w1 ⟨bw1, rfl, hb, hE⟩
  
  clear hb
  replace HL := hid (HL.out.ext ETok.ok hE)
  replace HM := hid (HM.out.ext ETok.ok hE)
  replace HPp := hid (HPp.out.ext ESt.ok hE)
  replace HEW := hid (HEW.out.ext hE)
  clear hE
  cases bw1 with
  | true =>
    go_wp2_with fail
    refine (HEND.out _ HEW.out).mono ?_
    rintro e w2 ⟨rfl, hz⟩
    have HZ := hid hz
    clear hz
    go_wp2
    go_ret
    exact ⟨rfl, HZ.out⟩
  | false =>
    go_wp2_with fail
    refine (heavy_ok _ _ _ _ _ _ [] HM.out (Sl.nil _ (fun _ => True))).mono ?_
    rintro e w3 ⟨bw3, rfl, hb, hE⟩
    
    clear hb
    replace HL := hid (HL.out.ext ETok.ok hE)
    replace HM := hid (HM.out.ext ETok.ok hE)
    replace HPp := hid (HPp.out.ext ESt.ok hE)
    replace HEW := hid (HEW.out.ext hE)
    clear hE
    cases bw3 with
    | true =>
      go_wp2_with fail
      refine (HEND.out _ HEW.out).mono ?_
      rintro e w4 ⟨rfl, hz⟩
      have HZ := hid hz
      clear hz
      go_wp2
      go_ret
      exact ⟨rfl, HZ.out⟩
    | false =>
      go_wp2_with fail
      refine (known3_ok _).mono ?_
      rintro e w5 ⟨rfl, hE⟩
      replace HL := hid (HL.out.ext ETok.ok hE)
      replace HM := hid (HM.out.ext ETok.ok hE)
      replace HPp := hid (HPp.out.ext ESt.ok hE)
      replace HEW := hid (HEW.out.ext hE)
      clear hE HEND
      go_wp2_with fail
      refine (rawall_ok _ _ _ _ HL.out).mono ?_
      rintro e w6 ⟨u, x, rfl, hsz, ⟨lx, ox, rfl, hlx, hox⟩, hE⟩
      obtain ⟨Ax1, cx1, rfl, _⟩ := hlx.shape
      obtain ⟨Ax2, cx2, rfl, _⟩ := hox.shape
      have HSx := hid hsz
      clear hsz
      have hA : Ext w6 (w6.alloc (.cells #[U8 x.kind, .int .i64 x.n, .string x.s, .slice Ax1 x.l.length cx1, .slice Ax2 x.o.length cx2] TVAL)) := (Keep.refl _ _).alloc _
      replace HL := hid (HL.out.ext ETok.ok (hE.ext hA))
      replace HM := hid (HM.out.ext ETok.ok (hE.ext hA))
      replace HPp := hid (HPp.out.ext ESt.ok (hE.ext hA))
      replace HEW := hid (HEW.out.ext (hE.ext hA))
      have HBx := hid (Blk.new w6 TVAL #[U8 x.kind, .int .i64 x.n, .string x.s, .slice Ax1 x.l.length cx1, .slice Ax2 x.o.length cx2])
      have HVx := hid (show VAt (w6.alloc (.cells #[U8 x.kind, .int .i64 x.n, .string x.s, .slice Ax1 x.l.length cx1, .slice Ax2 x.o.length cx2] TVAL)) (fun _ => True) (.agg #[U8 x.kind, .int .i64 x.n, .string x.s, .slice Ax1 x.l.length cx1, .slice Ax2 x.o.length cx2]) x from VAt.ext (VAt.more ⟨_, _, rfl, hlx, hox⟩ fun _ _ _ => trivial) hA)
      clear hA
      clear hlx hox hE
      obtain ⟨qx0, qx1, qx2, qx3, qx4⟩ := blk5 HBx.out
      go_wp2_with fail
      generalize w6.alloc (.cells #[U8 x.kind, .int .i64 x.n, .string x.s, .slice Ax1 x.l.length cx1, .slice Ax2 x.o.length cx2] TVAL) = w7 at *
      refine (rcopy_any _ x (Nat.le_refl _) (by have := HSx.out; omega) _ _ _ HVx.out).mono ?_
      rintro e w8 hg
      obtain ⟨u, rfl, ⟨lx, ox, rfl, hlx, hox⟩, hE⟩ := hg.at_
      obtain ⟨Aw1, cw1, rfl, _⟩ := hlx.shape
      obtain ⟨Aw2, cw2, rfl, _⟩ := hox.shape
      clear hg
      have hA : Ext w8 (w8.alloc (.cells #[U8 x.kind, .int .i64 x.n, .string x.s, .slice Aw1 x.l.length cw1, .slice Aw2 x.o.length cw2] TVAL)) := (Keep.refl _ _).alloc _
      replace HL := hid (HL.out.ext ETok.ok (hE.ext hA))
      replace HM := hid (HM.out.ext ETok.ok (hE.ext hA))
      replace HPp := hid (HPp.out.ext ESt.ok (hE.ext hA))
      replace HEW := hid (HEW.out.ext (hE.ext hA))
      replace HBx := hid (HBx.out.keep (hE.ext hA) id)
      replace HVx := hid (HVx.out.ext (hE.ext hA))
      have HBw := hid (Blk.new w8 TVAL #[U8 x.kind, .int .i64 x.n, .string x.s, .slice Aw1 x.l.length cw1, .slice Aw2 x.o.length cw2])
      have HVw := hid (show VAt (w8.alloc (.cells #[U8 x.kind, .int .i64 x.n, .string x.s, .slice Aw1 x.l.length cw1, .slice Aw2 x.o.length cw2] TVAL)) (fun _ => True) (.agg #[U8 x.kind, .int .i64 x.n, .string x.s, .slice Aw1 x.l.length cw1, .slice Aw2 x.o.length cw2]) x from VAt.ext (VAt.more ⟨_, _, rfl, hlx, hox⟩ fun _ _ _ => trivial) hA)
      clear hA
      clear hlx hox hE
      clear qx0 qx1 qx2 qx3 qx4
      go_wp2_with fail
      generalize w8.alloc (.cells #[U8 x.kind, .int .i64 x.n, .string x.s, .slice Aw1 x.l.length cw1, .slice Aw2 x.o.length cw2] TVAL) = w9 at *
      refine (rawall_ok _ _ _ _ HM.out).mono ?_
      rintro e w10 ⟨u, m, rfl, hsz, ⟨lx, ox, rfl, hlx, hox⟩, hE⟩
      obtain ⟨Am1, cm1, rfl, _⟩ := hlx.shape
      obtain ⟨Am2, cm2, rfl, _⟩ := hox.shape
      have HSm := hid hsz
      clear hsz
      have hA : Ext w10 (w10.alloc (.cells #[U8 m.kind, .int .i64 m.n, .string m.s, .slice Am1 m.l.length cm1, .slice Am2 m.o.length cm2] TVAL)) := (Keep.refl _ _).alloc _
      replace HL := hid (HL.out.ext ETok.ok (hE.ext hA))
      replace HM := hid (HM.out.ext ETok.ok (hE.ext hA))
      replace HPp := hid (HPp.out.ext ESt.ok (hE.ext hA))
      replace HEW := hid (HEW.out.ext (hE.ext hA))
      replace HBx := hid (HBx.out.keep (hE.ext hA) id)
      replace HVx := hid (HVx.out.ext (hE.ext hA))
      replace HBw := hid (HBw.out.keep (hE.ext hA) id)
      replace HVw := hid (HVw.out.ext (hE.ext hA))
      have HBm := hid (Blk.new w10 TVAL #[U8 m.kind, .int .i64 m.n, .string m.s, .slice Am1 m.l.length cm1, .slice Am2 m.o.length cm2])
      have HVm := hid (show VAt (w10.alloc (.cells #[U8 m.kind, .int .i64 m.n, .string m.s, .slice Am1 m.l.length cm1, .slice Am2 m.o.length cm2] TVAL)) (fun _ => True) (.agg #[U8 m.kind, .int .i64 m.n, .string m.s, .slice Am1 m.l.length cm1, .slice Am2 m.o.length cm2]) m from VAt.ext (VAt.more ⟨_, _, rfl, hlx, hox⟩ fun _ _ _ => trivial) hA)
      clear hA
      clear hlx hox hE
      obtain ⟨y, err, herr, hg1, hg2⟩ := get_two x p
      obtain ⟨z, ers, hers, hg3, hg4⟩ := put_two x p m
      obtain ⟨he1, he2⟩ := herr
      obtain ⟨he3, he4⟩ := hers
      have HG1 := hid hg1
      have HG2 := hid hg2
      have HG3 := hid hg3
      have HG4 := hid hg4
      clear hg1 hg2 hg3 hg4
      obtain ⟨qx0, qx1, qx2, qx3, qx4⟩ := blk5 HBx.out
      go_wp2_with fail
      generalize w10.alloc (.cells #[U8 m.kind, .int .i64 m.n, .string m.s, .slice Am1 m.l.length cm1, .slice Am2 m.o.length cm2] TVAL) = w11 at *
      refine (path_get _ _ _ x p _ _ HVx.out HPp.out (by have := HSx.out; omega)).mono ?_
      rintro e w12 hg
      obtain ⟨u, rfl, ⟨ly, oy, rfl, hly, hoy⟩, hE⟩ := HG1.out _ _ _ hg
      clear hg
      obtain ⟨Aa1, ca1, rfl, _⟩ := hly.shape
      obtain ⟨Aa2, ca2, rfl, _⟩ := hoy.shape
      have hA : Ext w12 (w12.alloc (.cells #[U8 y.kind, .int .i64 y.n, .string y.s, .slice Aa1 y.l.length ca1, .slice Aa2 y.o.length ca2] TVAL)) := (Keep.refl _ _).alloc _
      replace HL := hid (HL.out.ext ETok.ok (hE.ext hA))
      replace HM := hid (HM.out.ext ETok.ok (hE.ext hA))
      replace HPp := hid (HPp.out.ext ESt.ok (hE.ext hA))
      replace HEW := hid (HEW.out.ext (hE.ext hA))
      replace HBx := hid (HBx.out.keep (hE.ext hA) id)
      replace HVx := hid (HVx.out.ext (hE.ext hA))
      replace HBw := hid (HBw.out.keep (hE.ext hA) id)
      replace HVw := hid (HVw.out.ext (hE.ext hA))
      replace HBm := hid (HBm.out.keep (hE.ext hA) id)
      replace HVm := hid (HVm.out.ext (hE.ext hA))
      have HBa := hid (Blk.new w12 TVAL #[U8 y.kind, .int .i64 y.n, .string y.s, .slice Aa1 y.l.length ca1, .slice Aa2 y.o.length ca2])
      have HVa := hid (show VAt (w12.alloc (.cells #[U8 y.kind, .int .i64 y.n, .string y.s, .slice Aa1 y.l.length ca1, .slice Aa2 y.o.length ca2] TVAL)) (fun _ => True) (.agg #[U8 y.kind, .int .i64 y.n, .string y.s, .slice Aa1 y.l.length ca1, .slice Aa2 y.o.length ca2]) y from VAt.ext (VAt.more ⟨_, _, rfl, hly, hoy⟩ fun _ _ _ => trivial) hA)
      clear hA
      clear hly hoy hE
      clear qx0 qx1 qx2 qx3 qx4
      obtain ⟨qw0, qw1, qw2, qw3, qw4⟩ := blk5 HBw.out
      go_wp2_with fail
      generalize w12.alloc (.cells #[U8 y.kind, .int .i64 y.n, .string y.s, .slice Aa1 y.l.length ca1, .slice Aa2 y.o.length ca2] TVAL) = w13 at *
      refine (rget_ok _ _ _ x p _ _ HVw.out HPp.out (by have := HSx.out; omega)).mono ?_
      rintro e w14 hg
      obtain ⟨u, rfl, ⟨ly, oy, rfl, hly, hoy⟩, hE⟩ := HG2.out _ _ _ hg
      clear hg
      obtain ⟨Ab1, cb1, rfl, _⟩ := hly.shape
      obtain ⟨Ab2, cb2, rfl, _⟩ := hoy.shape
      have hA : Ext w14 (w14.alloc (.cells #[U8 y.kind, .int .i64 y.n, .string y.s, .slice Ab1 y.l.length cb1, .slice Ab2 y.o.length cb2] TVAL)) := (Keep.refl _ _).alloc _
      replace HL := hid (HL.out.ext ETok.ok (hE.ext hA))
      replace HM := hid (HM.out.ext ETok.ok (hE.ext hA))
      replace HPp := hid (HPp.out.ext ESt.ok (hE.ext hA))
      replace HEW := hid (HEW.out.ext (hE.ext hA))
      replace HBx := hid (HBx.out.keep (hE.ext hA) id)
      replace HVx := hid (HVx.out.ext (hE.ext hA))
      replace HBw := hid (HBw.out.keep (hE.ext hA) id)
      replace HVw := hid (HVw.out.ext (hE.ext hA))
      replace HBm := hid (HBm.out.keep (hE.ext hA) id)
      replace HVm := hid (HVm.out.ext (hE.ext hA))
      replace HBa := hid (HBa.out.keep (hE.ext hA) id)
      replace HVa := hid (HVa.out.ext (hE.ext hA))
      have HBb := hid (Blk.new w14 TVAL #[U8 y.kind, .int .i64 y.n, .string y.s, .slice Ab1 y.l.length cb1, .slice Ab2 y.o.length cb2])
      have HVb := hid (show VAt (w14.alloc (.cells #[U8 y.kind, .int .i64 y.n, .string y.s, .slice Ab1 y.l.length cb1, .slice Ab2 y.o.length cb2] TVAL)) (fun _ => True) (.agg #[U8 y.kind, .int .i64 y.n, .string y.s, .slice Ab1 y.l.length cb1, .slice Ab2 y.o.length cb2]) y from VAt.ext (VAt.more ⟨_, _, rfl, hly, hoy⟩ fun _ _ _ => trivial) hA)
      clear hA
      clear hly hoy hE
      clear qw0 qw1 qw2 qw3 qw4
      obtain ⟨qx0, qx1, qx2, qx3, qx4⟩ := blk5 HBx.out
      obtain ⟨qm0, qm1, qm2, qm3, qm4⟩ := blk5 HBm.out
      go_wp2_with fail
      generalize w14.alloc (.cells #[U8 y.kind, .int .i64 y.n, .string y.s, .slice Ab1 y.l.length cb1, .slice Ab2 y.o.length cb2] TVAL) = w15 at *
      refine (path_put _ _ _ _ x m p _ _ _ HVx.out HVm.out HPp.out (by have := HSx.out; omega) (by have := HSm.out; omega)).mono ?_
      rintro e w16 hg
      obtain ⟨u, rfl, ⟨ly, oy, rfl, hly, hoy⟩, hE⟩ := HG3.out _ _ _ hg
      clear hg
      obtain ⟨Ac1, cc1, rfl, _⟩ := hly.shape
      obtain ⟨Ac2, cc2, rfl, _⟩ := hoy.shape
      have hA : Ext w16 (w16.alloc (.cells #[U8 z.kind, .int .i64 z.n, .string z.s, .slice Ac1 z.l.length cc1, .slice Ac2 z.o.length cc2] TVAL)) := (Keep.refl _ _).alloc _
      replace HL := hid (HL.out.ext ETok.ok (hE.ext hA))
      replace HM := hid (HM.out.ext ETok.ok (hE.ext hA))
      replace HPp := hid (HPp.out.ext ESt.ok (hE.ext hA))
      replace HEW := hid (HEW.out.ext (hE.ext hA))
      replace HBx := hid (HBx.out.keep (hE.ext hA) id)
      replace HVx := hid (HVx.out.ext (hE.ext hA))
      replace HBw := hid (HBw.out.keep (hE.ext hA) id)
      replace HVw := hid (HVw.out.ext (hE.ext hA))
      replace HBm := hid (HBm.out.keep (hE.ext hA) id)
      replace HVm := hid (HVm.out.ext (hE.ext hA))
      replace HBa := hid (HBa.out.keep (hE.ext hA) id)
      replace HVa := hid (HVa.out.ext (hE.ext hA))
      replace HBb := hid (HBb.out.keep (hE.ext hA) id)
      replace HVb := hid (HVb.out.ext (hE.ext hA))
      have HBc := hid (Blk.new w16 TVAL #[U8 z.kind, .int .i64 z.n, .string z.s, .slice Ac1 z.l.length cc1, .slice Ac2 z.o.length cc2])
      have HVc := hid (show VAt (w16.alloc (.cells #[U8 z.kind, .int .i64 z.n, .string z.s, .slice Ac1 z.l.length cc1, .slice Ac2 z.o.length cc2] TVAL)) (fun _ => True) (.agg #[U8 z.kind, .int .i64 z.n, .string z.s, .slice Ac1 z.l.length cc1, .slice Ac2 z.o.length cc2]) z from VAt.ext (VAt.more ⟨_, _, rfl, hly, hoy⟩ fun _ _ _ => trivial) hA)
      clear hA
      clear hly hoy hE
      clear qx0 qx1 qx2 qx3 qx4 qm0 qm1 qm2 qm3 qm4
      obtain ⟨qw0, qw1, qw2, qw3, qw4⟩ := blk5 HBw.out
      obtain ⟨qm0, qm1, qm2, qm3, qm4⟩ := blk5 HBm.out
      go_wp2_with fail
      generalize w16.alloc (.cells #[U8 z.kind, .int .i64 z.n, .string z.s, .slice Ac1 z.l.length cc1, .slice Ac2 z.o.length cc2] TVAL) = w17 at *
      refine (rput_ok p _ _ _ _ x m _ _ _ HVw.out HVm.out HPp.out (by have := HSx.out; omega) (by have := HSm.out; omega)).mono ?_
      rintro e w18 hg
      obtain ⟨u, rfl, ⟨ly, oy, rfl, hly, hoy⟩, hE⟩ := HG4.out _ _ _ hg
      clear hg
      obtain ⟨Ad1, cd1, rfl, _⟩ := hly.shape
      obtain ⟨Ad2, cd2, rfl, _⟩ := hoy.shape
      have hA : Ext w18 (w18.alloc (.cells #[U8 z.kind, .int .i64 z.n, .string z.s, .slice Ad1 z.l.length cd1, .slice Ad2 z.o.length cd2] TVAL)) := (Keep.refl _ _).alloc _
      replace HL := hid (HL.out.ext ETok.ok (hE.ext hA))
      replace HM := hid (HM.out.ext ETok.ok (hE.ext hA))
      replace HPp := hid (HPp.out.ext ESt.ok (hE.ext hA))
      replace HEW := hid (HEW.out.ext (hE.ext hA))
      replace HBx := hid (HBx.out.keep (hE.ext hA) id)
      replace HVx := hid (HVx.out.ext (hE.ext hA))
      replace HBw := hid (HBw.out.keep (hE.ext hA) id)
      replace HVw := hid (HVw.out.ext (hE.ext hA))
      replace HBm := hid (HBm.out.keep (hE.ext hA) id)
      replace HVm := hid (HVm.out.ext (hE.ext hA))
      replace HBa := hid (HBa.out.keep (hE.ext hA) id)
      replace HVa := hid (HVa.out.ext (hE.ext hA))
      replace HBb := hid (HBb.out.keep (hE.ext hA) id)
      replace HVb := hid (HVb.out.ext (hE.ext hA))
      replace HBc := hid (HBc.out.keep (hE.ext hA) id)
      replace HVc := hid (HVc.out.ext (hE.ext hA))
      have HBd := hid (Blk.new w18 TVAL #[U8 z.kind, .int .i64 z.n, .string z.s, .slice Ad1 z.l.length cd1, .slice Ad2 z.o.length cd2])
      have HVd := hid (show VAt (w18.alloc (.cells #[U8 z.kind, .int .i64 z.n, .string z.s, .slice Ad1 z.l.length cd1, .slice Ad2 z.o.length cd2] TVAL)) (fun _ => True) (.agg #[U8 z.kind, .int .i64 z.n, .string z.s, .slice Ad1 z.l.length cd1, .slice Ad2 z.o.length cd2]) z from VAt.ext (VAt.more ⟨_, _, rfl, hly, hoy⟩ fun _ _ _ => trivial) hA)
      clear hA
      clear hly hoy hE
      clear qw0 qw1 qw2 qw3 qw4 qm0 qm1 qm2 qm3 qm4
      obtain ⟨qa0, qa1, qa2, qa3, qa4⟩ := blk5 HBa.out
      obtain ⟨qb0, qb1, qb2, qb3, qb4⟩ := blk5 HBb.out
      go_wp2_with fail
      generalize w18.alloc (.cells #[U8 z.kind, .int .i64 z.n, .string z.s, .slice Ad1 z.l.length cd1, .slice Ad2 z.o.length cd2] TVAL) = w19 at *
      refine (same_eq _ y (Nat.le_refl _) _ _ _ _ _ HVa.out HVb.out).mono ?_
      rintro e w20 ⟨rfl, hE⟩
      replace HL := hid (HL.out.ext ETok.ok hE)
      replace HM := hid (HM.out.ext ETok.ok hE)
      replace HPp := hid (HPp.out.ext ESt.ok hE)
      replace HEW := hid (HEW.out.ext hE)
      replace HBx := hid (HBx.out.keep hE id)
      replace HVx := hid (HVx.out.ext hE)
      replace HBw := hid (HBw.out.keep hE id)
      replace HVw := hid (HVw.out.ext hE)
      replace HBm := hid (HBm.out.keep hE id)
      replace HVm := hid (HVm.out.ext hE)
      replace HBa := hid (HBa.out.keep hE id)
      replace HVa := hid (HVa.out.ext hE)
      replace HBb := hid (HBb.out.keep hE id)
      replace HVb := hid (HVb.out.ext hE)
      replace HBc := hid (HBc.out.keep hE id)
      replace HVc := hid (HVc.out.ext hE)
      replace HBd := hid (HBd.out.keep hE id)
      replace HVd := hid (HVd.out.ext hE)
      clear hE
      clear qa0 qa1 qa2 qa3 qa4 qb0 qb1 qb2 qb3 qb4
      obtain ⟨qc0, qc1, qc2, qc3, qc4⟩ := blk5 HBc.out
      obtain ⟨qd0, qd1, qd2, qd3, qd4⟩ := blk5 HBd.out
      go_wp2_with fail
      refine (same_eq _ z (Nat.le_refl _) _ _ _ _ _ HVc.out HVd.out).mono ?_
      rintro e w21 ⟨rfl, hE⟩
      replace HL := hid (HL.out.ext ETok.ok hE)
      replace HM := hid (HM.out.ext ETok.ok hE)
      replace HPp := hid (HPp.out.ext ESt.ok hE)
      replace HEW := hid (HEW.out.ext hE)
      replace HBx := hid (HBx.out.keep hE id)
      replace HVx := hid (HVx.out.ext hE)
      replace HBw := hid (HBw.out.keep hE id)
      replace HVw := hid (HVw.out.ext hE)
      replace HBm := hid (HBm.out.keep hE id)
      replace HVm := hid (HVm.out.ext hE)
      replace HBa := hid (HBa.out.keep hE id)
      replace HVa := hid (HVa.out.ext hE)
      replace HBb := hid (HBb.out.keep hE id)
      replace HVb := hid (HVb.out.ext hE)
      replace HBc := hid (HBc.out.keep hE id)
      replace HVc := hid (HVc.out.ext hE)
      replace HBd := hid (HBd.out.keep hE id)
      replace HVd := hid (HVd.out.ext hE)
      clear hE
      clear qc0 qc1 qc2 qc3 qc4 qd0 qd1 qd2 qd3 qd4
      obtain ⟨qx0, qx1, qx2, qx3, qx4⟩ := blk5 HBx.out
      obtain ⟨qw0, qw1, qw2, qw3, qw4⟩ := blk5 HBw.out
      go_wp2_with fail
      refine (same_eq _ x (Nat.le_refl _) _ _ _ _ _ HVx.out HVw.out).mono ?_
      rintro e w22 ⟨rfl, hE⟩
      replace HL := hid (HL.out.ext ETok.ok hE)
      replace HM := hid (HM.out.ext ETok.ok hE)
      replace HPp := hid (HPp.out.ext ESt.ok hE)
      replace HEW := hid (HEW.out.ext hE)
      replace HBx := hid (HBx.out.keep hE id)
      replace HVx := hid (HVx.out.ext hE)
      replace HBw := hid (HBw.out.keep hE id)
      replace HVw := hid (HVw.out.ext hE)
      replace HBm := hid (HBm.out.keep hE id)
      replace HVm := hid (HVm.out.ext hE)
      replace HBa := hid (HBa.out.keep hE id)
      replace HVa := hid (HVa.out.ext hE)
      replace HBb := hid (HBb.out.keep hE id)
      replace HVb := hid (HVb.out.ext hE)
      replace HBc := hid (HBc.out.keep hE id)
      replace HVc := hid (HVc.out.ext hE)
      replace HBd := hid (HBd.out.keep hE id)
      replace HVd := hid (HVd.out.ext hE)
      clear hE
      clear qx0 qx1 qx2 qx3 qx4 qw0 qw1 qw2 qw3 qw4
      go_wp2
      go_ret
      exact ⟨rfl, HEW.out⟩
theorem gets_lift {Q0 Q1 Q3 : Prop} (v : Value) (ts : List Tk) (pv : Value) (p : List St) (mv : Value) (ms : List Tk) (w : World) (h0 : Sl ETok w (fun k => k < w.heap.size) v ts) (q0 : Q0) (h1 : Sl ESt w (fun k => k < w.heap.size) pv p) (q1 : Q1) (h3 : Sl ETok w (fun k => k < w.heap.size) mv ms) (q3 : Q3) :
    Calls Tryd.prog 5 #[v, pv, mv] w fun e w' => e = .returned (.bool true) ∧ Below w.heap.size w w' :=
  (gets_walk v pv mv ts p ms w (h0.more ETok.ok fun _ _ _ => trivial) (h1.more ESt.ok fun _ _ _ => trivial) (h3.more ETok.ok fun _ _ _ => trivial)).mono fun e w' h => ⟨h.1, h.2.toBelow⟩
end Go.Proofs.YtjdpljjbgggpiaaDoor
