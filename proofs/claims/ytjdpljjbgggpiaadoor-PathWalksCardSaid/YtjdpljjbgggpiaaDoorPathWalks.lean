/- Get and Put at a path that leads into a value: the walk. -/
import Derived.Test.YtjdpljjbgggpiaaDoorRefPut
set_option linter.unusedSimpArgs false
set_option linter.unusedVariables false
namespace Go.Proofs.YtjdpljjbgggpiaaDoor
open Go.RowKit
set_option linter.unusedVariables false
set_option maxHeartbeats 12800000 in
theorem walks_walk (lv cv mv : Value) (ts : List Tk) (cl : List UInt8) (ms : List Tk) (w : World) (hl : Sl ETok w (fun _ => True) lv ts) (hc : BytesS w (fun _ => True) cv cl) (hm : Sl ETok w (fun _ => True) mv ms) :
    Calls Tryd.prog 6 #[lv, cv, mv] w fun e w' => e = .returned (.bool true) ∧ Ext w w' := by
  obtain ⟨A, c, rfl, _, _⟩ := hl.shape
  obtain ⟨Ac, cc, rfl, _, _⟩ := hc.shape
  obtain ⟨Am, cm, rfl, _, _⟩ := hm.shape
  have HL := hid hl
  have HC := hid hc
  have HM := hid hm
  clear hl hc hm
  go_enter Tryd.func6, Tryd.ntmps6
  have hend : ∀ wx, Ext w wx → Calls Tryd.prog 11 #[] wx fun e w' => e = .returned (.bool true) ∧ Ext w w' := fun wx h => (known3_ok wx).mono fun e w' h2 => ⟨h2.1, h.ext h2.2⟩
  have HEND := hid hend
  clear hend
  have HEW := hid (Keep.refl (fun _ => False) w)
  go_wp2_with fail
  refine (heavy_ok _ _ _ _ _ _ [] HL.out (Sl.nil _ (fun _ => True))).mono ?_
  rintro e w1 ⟨bw1, rfl, hb, hE⟩
  
  clear hb
  replace HL := hid (HL.out.ext ETok.ok hE)
  replace HM := hid (HM.out.ext ETok.ok hE)
  replace HC := hid (HC.out.ext EU8.ok hE)
  replace HEW := hid (HEW.out.ext hE)
  clear hE
  cases bw1 with
  | true =>
    go_wp2_with fail
    refine (HEND.out _ HEW.out).mono ?_
    rintro e w2 ⟨rfl, hz⟩
    have HZ := hid hz
    clear hz
    go_wp2
    go_ret
    exact ⟨rfl, HZ.out⟩
  | false =>
    go_wp2_with fail
    refine (heavy_ok _ _ _ _ _ _ [] HM.out (Sl.nil _ (fun _ => True))).mono ?_
    rintro e w3 ⟨bw3, rfl, hb, hE⟩
    
    clear hb
    replace HL := hid (HL.out.ext ETok.ok hE)
    replace HM := hid (HM.out.ext ETok.ok hE)
    replace HC := hid (HC.out.ext EU8.ok hE)
    replace HEW := hid (HEW.out.ext hE)
    clear hE
    cases bw3 with
    | true =>
      go_wp2_with fail
      refine (HEND.out _ HEW.out).mono ?_
      rintro e w4 ⟨rfl, hz⟩
      have HZ := hid hz
      clear hz
      go_wp2
      go_ret
      exact ⟨rfl, HZ.out⟩
    | false =>
      by_cases hlcl : 20 < cl.length
      · have hlXcl : (20 : Int) < cl.length := by omega
        go_wp2_with fail
        refine (HEND.out _ HEW.out).mono ?_
        rintro e w5 ⟨rfl, hz⟩
        have HZ := hid hz
        clear hz
        go_wp2
        go_ret
        exact ⟨rfl, HZ.out⟩
      · have hlXcl : ¬ (20 : Int) < cl.length := by omega
        go_wp2_with fail
        refine (known3_ok _).mono ?_
        rintro e w6 ⟨rfl, hE⟩
        replace HL := hid (HL.out.ext ETok.ok hE)
        replace HM := hid (HM.out.ext ETok.ok hE)
        replace HC := hid (HC.out.ext EU8.ok hE)
        replace HEW := hid (HEW.out.ext hE)
        clear hE HEND
        go_wp2_with fail
        refine (build_ok _ _ _ _ HL.out).mono ?_
        rintro e w7 ⟨u, x, rfl, hsv, hsz, ⟨lx, ox, rfl, hlx, hox⟩, hE⟩
        obtain ⟨Ax1, cx1, rfl, _⟩ := hlx.shape
        obtain ⟨Ax2, cx2, rfl, _⟩ := hox.shape
        have HSx := hid (And.intro hsv hsz)
        clear hsv hsz
        have hA : Ext w7 (w7.alloc (.cells #[U8 x.kind, .int .i64 x.n, .string x.s, .slice Ax1 x.l.length cx1, .slice Ax2 x.o.length cx2] TVAL)) := (Keep.refl _ _).alloc _
        replace HL := hid (HL.out.ext ETok.ok (hE.ext hA))
        replace HM := hid (HM.out.ext ETok.ok (hE.ext hA))
        replace HC := hid (HC.out.ext EU8.ok (hE.ext hA))
        replace HEW := hid (HEW.out.ext (hE.ext hA))
        have HBx := hid (Blk.new w7 TVAL #[U8 x.kind, .int .i64 x.n, .string x.s, .slice Ax1 x.l.length cx1, .slice Ax2 x.o.length cx2])
        have HVx := hid (show VAt (w7.alloc (.cells #[U8 x.kind, .int .i64 x.n, .string x.s, .slice Ax1 x.l.length cx1, .slice Ax2 x.o.length cx2] TVAL)) (fun _ => True) (.agg #[U8 x.kind, .int .i64 x.n, .string x.s, .slice Ax1 x.l.length cx1, .slice Ax2 x.o.length cx2]) x from VAt.ext (VAt.more ⟨_, _, rfl, hlx, hox⟩ fun _ _ _ => trivial) hA)
        clear hA
        clear hlx hox hE
        go_wp2_with fail
        generalize w7.alloc (.cells #[U8 x.kind, .int .i64 x.n, .string x.s, .slice Ax1 x.l.length cx1, .slice Ax2 x.o.length cx2] TVAL) = w8 at *
        refine (build_ok _ _ _ _ HM.out).mono ?_
        rintro e w9 ⟨u, m, rfl, hsv, hsz, ⟨lx, ox, rfl, hlx, hox⟩, hE⟩
        obtain ⟨Am1, cm1, rfl, _⟩ := hlx.shape
        obtain ⟨Am2, cm2, rfl, _⟩ := hox.shape
        have HSm := hid (And.intro hsv hsz)
        clear hsv hsz
        have hA : Ext w9 (w9.alloc (.cells #[U8 m.kind, .int .i64 m.n, .string m.s, .slice Am1 m.l.length cm1, .slice Am2 m.o.length cm2] TVAL)) := (Keep.refl _ _).alloc _
        replace HL := hid (HL.out.ext ETok.ok (hE.ext hA))
        replace HM := hid (HM.out.ext ETok.ok (hE.ext hA))
        replace HC := hid (HC.out.ext EU8.ok (hE.ext hA))
        replace HEW := hid (HEW.out.ext (hE.ext hA))
        replace HBx := hid (HBx.out.keep (hE.ext hA) id)
        replace HVx := hid (HVx.out.ext (hE.ext hA))
        have HBm := hid (Blk.new w9 TVAL #[U8 m.kind, .int .i64 m.n, .string m.s, .slice Am1 m.l.length cm1, .slice Am2 m.o.length cm2])
        have HVm := hid (show VAt (w9.alloc (.cells #[U8 m.kind, .int .i64 m.n, .string m.s, .slice Am1 m.l.length cm1, .slice Am2 m.o.length cm2] TVAL)) (fun _ => True) (.agg #[U8 m.kind, .int .i64 m.n, .string m.s, .slice Am1 m.l.length cm1, .slice Am2 m.o.length cm2]) m from VAt.ext (VAt.more ⟨_, _, rfl, hlx, hox⟩ fun _ _ _ => trivial) hA)
        clear hA
        clear hlx hox hE
        obtain ⟨qx0, qx1, qx2, qx3, qx4⟩ := blk5 HBx.out
        go_wp2_with fail
        generalize w9.alloc (.cells #[U8 m.kind, .int .i64 m.n, .string m.s, .slice Am1 m.l.length cm1, .slice Am2 m.o.length cm2] TVAL) = w10 at *
        refine (walk_ok x _ _ cl _ _ _ HVx.out HSx.out.1 (by have := HSx.out.2; omega) HC.out).mono ?_
        rintro e w11 ⟨u, p, rfl, hp, hwk, hE⟩
        obtain ⟨Ap, cp, rfl, hpl, hpm⟩ := hp.shape
        have HPp := hid ((hp.sl ESt.ok).more ESt.ok (S' := fun _ => True) fun _ _ _ => trivial)
        have HWp := hid hwk
        clear hp hwk
        replace HL := hid (HL.out.ext ETok.ok hE)
        replace HM := hid (HM.out.ext ETok.ok hE)
        replace HC := hid (HC.out.ext EU8.ok hE)
        replace HEW := hid (HEW.out.ext hE)
        replace HBx := hid (HBx.out.keep hE id)
        replace HVx := hid (HVx.out.ext hE)
        replace HBm := hid (HBm.out.keep hE id)
        replace HVm := hid (HVm.out.ext hE)
        clear hE
        clear qx0 qx1 qx2 qx3 qx4
        obtain ⟨y, hy⟩ := HWp.out.get
        obtain ⟨z, hz⟩ : ∃ z, putV x p m = some z := Option.isSome_iff_exists.1 (by rw [← putV_some, hy]; rfl)
        have HY := hid hy
        have HZ := hid hz
        clear hy hz
        obtain ⟨qx0, qx1, qx2, qx3, qx4⟩ := blk5 HBx.out
        go_wp2_with fail
        refine (path_get _ _ _ _ _ _ _ HVx.out HPp.out (by have := HSx.out.2; omega)).mono ?_
        rintro e w12 hg
        rw [HY.out] at hg
        obtain ⟨u, rfl, hva, hE⟩ := hg.val
        obtain ⟨ly, oy, rfl, hly, hoy⟩ := hva
        obtain ⟨Aa1, ca1, rfl, _⟩ := hly.shape
        obtain ⟨Aa2, ca2, rfl, _⟩ := hoy.shape
        have hA : Ext w12 (w12.alloc (.cells #[U8 y.kind, .int .i64 y.n, .string y.s, .slice Aa1 y.l.length ca1, .slice Aa2 y.o.length ca2] TVAL)) := (Keep.refl _ _).alloc _
        replace HL := hid (HL.out.ext ETok.ok (hE.ext hA))
        replace HM := hid (HM.out.ext ETok.ok (hE.ext hA))
        replace HC := hid (HC.out.ext EU8.ok (hE.ext hA))
        replace HEW := hid (HEW.out.ext (hE.ext hA))
        replace HBx := hid (HBx.out.keep (hE.ext hA) id)
        replace HVx := hid (HVx.out.ext (hE.ext hA))
        replace HBm := hid (HBm.out.keep (hE.ext hA) id)
        replace HVm := hid (HVm.out.ext (hE.ext hA))
        replace HPp := hid (HPp.out.ext ESt.ok (hE.ext hA))
        have HBa := hid (Blk.new w12 TVAL #[U8 y.kind, .int .i64 y.n, .string y.s, .slice Aa1 y.l.length ca1, .slice Aa2 y.o.length ca2])
        have HVa := hid (show VAt (w12.alloc (.cells #[U8 y.kind, .int .i64 y.n, .string y.s, .slice Aa1 y.l.length ca1, .slice Aa2 y.o.length ca2] TVAL)) (fun _ => True) (.agg #[U8 y.kind, .int .i64 y.n, .string y.s, .slice Aa1 y.l.length ca1, .slice Aa2 y.o.length ca2]) y from VAt.ext (VAt.more ⟨_, _, rfl, hly, hoy⟩ fun _ _ _ => trivial) hA)
        clear hA
        clear hly hoy hE
        clear qx0 qx1 qx2 qx3 qx4
        obtain ⟨qx0, qx1, qx2, qx3, qx4⟩ := blk5 HBx.out
        go_wp2_with fail
        generalize w12.alloc (.cells #[U8 y.kind, .int .i64 y.n, .string y.s, .slice Aa1 y.l.length ca1, .slice Aa2 y.o.length ca2] TVAL) = w13 at *
        refine (rget_ok _ _ _ _ _ _ _ HVx.out HPp.out (by have := HSx.out.2; omega)).mono ?_
        rintro e w14 ⟨hg, hE⟩
        rw [HY.out] at hg
        obtain ⟨u, rfl, hva⟩ := hg
        obtain ⟨ly, oy, rfl, hly, hoy⟩ := hva
        obtain ⟨Ab1, cb1, rfl, _⟩ := hly.shape
        obtain ⟨Ab2, cb2, rfl, _⟩ := hoy.shape
        have hA : Ext w14 (w14.alloc (.cells #[U8 y.kind, .int .i64 y.n, .string y.s, .slice Ab1 y.l.length cb1, .slice Ab2 y.o.length cb2] TVAL)) := (Keep.refl _ _).alloc _
        replace HL := hid (HL.out.ext ETok.ok (hE.ext hA))
        replace HM := hid (HM.out.ext ETok.ok (hE.ext hA))
        replace HC := hid (HC.out.ext EU8.ok (hE.ext hA))
        replace HEW := hid (HEW.out.ext (hE.ext hA))
        replace HBx := hid (HBx.out.keep (hE.ext hA) id)
        replace HVx := hid (HVx.out.ext (hE.ext hA))
        replace HBm := hid (HBm.out.keep (hE.ext hA) id)
        replace HVm := hid (HVm.out.ext (hE.ext hA))
        replace HPp := hid (HPp.out.ext ESt.ok (hE.ext hA))
        replace HBa := hid (HBa.out.keep (hE.ext hA) id)
        replace HVa := hid (HVa.out.ext (hE.ext hA))
        have HBb := hid (Blk.new w14 TVAL #[U8 y.kind, .int .i64 y.n, .string y.s, .slice Ab1 y.l.length cb1, .slice Ab2 y.o.length cb2])
        have HVb := hid (show VAt (w14.alloc (.cells #[U8 y.kind, .int .i64 y.n, .string y.s, .slice Ab1 y.l.length cb1, .slice Ab2 y.o.length cb2] TVAL)) (fun _ => True) (.agg #[U8 y.kind, .int .i64 y.n, .string y.s, .slice Ab1 y.l.length cb1, .slice Ab2 y.o.length cb2]) y from VAt.ext (VAt.more ⟨_, _, rfl, hly, hoy⟩ fun _ _ _ => trivial) hA)
        clear hA
        clear hly hoy hE
        clear qx0 qx1 qx2 qx3 qx4
        obtain ⟨qx0, qx1, qx2, qx3, qx4⟩ := blk5 HBx.out
        obtain ⟨qm0, qm1, qm2, qm3, qm4⟩ := blk5 HBm.out
        go_wp2_with fail
        generalize w14.alloc (.cells #[U8 y.kind, .int .i64 y.n, .string y.s, .slice Ab1 y.l.length cb1, .slice Ab2 y.o.length cb2] TVAL) = w15 at *
        refine (path_put _ _ _ _ _ _ _ _ _ _ HVx.out HVm.out HPp.out (by have := HSx.out.2; omega) (by have := HSm.out.2; omega)).mono ?_
        rintro e w16 hg
        rw [HZ.out] at hg
        obtain ⟨u, rfl, hva, hE⟩ := hg
        obtain ⟨ly, oy, rfl, hly, hoy⟩ := hva
        obtain ⟨Ac1, cc1, rfl, _⟩ := hly.shape
        obtain ⟨Ac2, cc2, rfl, _⟩ := hoy.shape
        have hA : Ext w16 (w16.alloc (.cells #[U8 z.kind, .int .i64 z.n, .string z.s, .slice Ac1 z.l.length cc1, .slice Ac2 z.o.length cc2] TVAL)) := (Keep.refl _ _).alloc _
        replace HL := hid (HL.out.ext ETok.ok (hE.ext hA))
        replace HM := hid (HM.out.ext ETok.ok (hE.ext hA))
        replace HC := hid (HC.out.ext EU8.ok (hE.ext hA))
        replace HEW := hid (HEW.out.ext (hE.ext hA))
        replace HBx := hid (HBx.out.keep (hE.ext hA) id)
        replace HVx := hid (HVx.out.ext (hE.ext hA))
        replace HBm := hid (HBm.out.keep (hE.ext hA) id)
        replace HVm := hid (HVm.out.ext (hE.ext hA))
        replace HPp := hid (HPp.out.ext ESt.ok (hE.ext hA))
        replace HBa := hid (HBa.out.keep (hE.ext hA) id)
        replace HVa := hid (HVa.out.ext (hE.ext hA))
        replace HBb := hid (HBb.out.keep (hE.ext hA) id)
        replace HVb := hid (HVb.out.ext (hE.ext hA))
        have HBc := hid (Blk.new w16 TVAL #[U8 z.kind, .int .i64 z.n, .string z.s, .slice Ac1 z.l.length cc1, .slice Ac2 z.o.length cc2])
        have HVc := hid (show VAt (w16.alloc (.cells #[U8 z.kind, .int .i64 z.n, .string z.s, .slice Ac1 z.l.length cc1, .slice Ac2 z.o.length cc2] TVAL)) (fun _ => True) (.agg #[U8 z.kind, .int .i64 z.n, .string z.s, .slice Ac1 z.l.length cc1, .slice Ac2 z.o.length cc2]) z from VAt.ext (VAt.more ⟨_, _, rfl, hly, hoy⟩ fun _ _ _ => trivial) hA)
        clear hA
        clear hly hoy hE
        clear qx0 qx1 qx2 qx3 qx4 qm0 qm1 qm2 qm3 qm4
        obtain ⟨qx0, qx1, qx2, qx3, qx4⟩ := blk5 HBx.out
        obtain ⟨qm0, qm1, qm2, qm3, qm4⟩ := blk5 HBm.out
        go_wp2_with fail
        generalize w16.alloc (.cells #[U8 z.kind, .int .i64 z.n, .string z.s, .slice Ac1 z.l.length cc1, .slice Ac2 z.o.length cc2] TVAL) = w17 at *
        refine (rput_ok _ _ _ _ _ _ _ _ _ _ HVx.out HVm.out HPp.out (by have := HSx.out.2; omega) (by have := HSm.out.2; omega)).mono ?_
        rintro e w18 ⟨hg, hE⟩
        rw [HZ.out] at hg
        obtain ⟨u, rfl, hva⟩ := hg
        obtain ⟨ly, oy, rfl, hly, hoy⟩ := hva
        obtain ⟨Ad1, cd1, rfl, _⟩ := hly.shape
        obtain ⟨Ad2, cd2, rfl, _⟩ := hoy.shape
        have hA : Ext w18 (w18.alloc (.cells #[U8 z.kind, .int .i64 z.n, .string z.s, .slice Ad1 z.l.length cd1, .slice Ad2 z.o.length cd2] TVAL)) := (Keep.refl _ _).alloc _
        replace HL := hid (HL.out.ext ETok.ok (hE.ext hA))
        replace HM := hid (HM.out.ext ETok.ok (hE.ext hA))
        replace HC := hid (HC.out.ext EU8.ok (hE.ext hA))
        replace HEW := hid (HEW.out.ext (hE.ext hA))
        replace HBx := hid (HBx.out.keep (hE.ext hA) id)
        replace HVx := hid (HVx.out.ext (hE.ext hA))
        replace HBm := hid (HBm.out.keep (hE.ext hA) id)
        replace HVm := hid (HVm.out.ext (hE.ext hA))
        replace HPp := hid (HPp.out.ext ESt.ok (hE.ext hA))
        replace HBa := hid (HBa.out.keep (hE.ext hA) id)
        replace HVa := hid (HVa.out.ext (hE.ext hA))
        replace HBb := hid (HBb.out.keep (hE.ext hA) id)
        replace HVb := hid (HVb.out.ext (hE.ext hA))
        replace HBc := hid (HBc.out.keep (hE.ext hA) id)
        replace HVc := hid (HVc.out.ext (hE.ext hA))
        have HBd := hid (Blk.new w18 TVAL #[U8 z.kind, .int .i64 z.n, .string z.s, .slice Ad1 z.l.length cd1, .slice Ad2 z.o.length cd2])
        have HVd := hid (show VAt (w18.alloc (.cells #[U8 z.kind, .int .i64 z.n, .string z.s, .slice Ad1 z.l.length cd1, .slice Ad2 z.o.length cd2] TVAL)) (fun _ => True) (.agg #[U8 z.kind, .int .i64 z.n, .string z.s, .slice Ad1 z.l.length cd1, .slice Ad2 z.o.length cd2]) z from VAt.ext (VAt.more ⟨_, _, rfl, hly, hoy⟩ fun _ _ _ => trivial) hA)
        clear hA
        clear hly hoy hE
        clear qx0 qx1 qx2 qx3 qx4 qm0 qm1 qm2 qm3 qm4
        obtain ⟨qa0, qa1, qa2, qa3, qa4⟩ := blk5 HBa.out
        obtain ⟨qb0, qb1, qb2, qb3, qb4⟩ := blk5 HBb.out
        go_wp2_with fail
        generalize w18.alloc (.cells #[U8 z.kind, .int .i64 z.n, .string z.s, .slice Ad1 z.l.length cd1, .slice Ad2 z.o.length cd2] TVAL) = w19 at *
        refine (same_eq _ y (Nat.le_refl _) _ _ _ _ _ HVa.out HVb.out).mono ?_
        rintro e we ⟨rfl, hE⟩
        replace HL := hid (HL.out.ext ETok.ok hE)
        replace HM := hid (HM.out.ext ETok.ok hE)
        replace HC := hid (HC.out.ext EU8.ok hE)
        replace HEW := hid (HEW.out.ext hE)
        replace HBx := hid (HBx.out.keep hE id)
        replace HVx := hid (HVx.out.ext hE)
        replace HBm := hid (HBm.out.keep hE id)
        replace HVm := hid (HVm.out.ext hE)
        replace HPp := hid (HPp.out.ext ESt.ok hE)
        replace HBa := hid (HBa.out.keep hE id)
        replace HVa := hid (HVa.out.ext hE)
        replace HBb := hid (HBb.out.keep hE id)
        replace HVb := hid (HVb.out.ext hE)
        replace HBc := hid (HBc.out.keep hE id)
        replace HVc := hid (HVc.out.ext hE)
        replace HBd := hid (HBd.out.keep hE id)
        replace HVd := hid (HVd.out.ext hE)
        clear hE
        clear qa0 qa1 qa2 qa3 qa4 qb0 qb1 qb2 qb3 qb4
        obtain ⟨qc0, qc1, qc2, qc3, qc4⟩ := blk5 HBc.out
        obtain ⟨qd0, qd1, qd2, qd3, qd4⟩ := blk5 HBd.out
        go_wp2_with fail
        refine (same_eq _ z (Nat.le_refl _) _ _ _ _ _ HVc.out HVd.out).mono ?_
        rintro e we2 ⟨rfl, hE⟩
        replace HEW := hid (HEW.out.ext hE)
        clear hE
        go_wp2
        go_ret
        exact ⟨rfl, HEW.out⟩
theorem walks_lift {Q0 Q1 Q3 : Prop} (v : Value) (ts : List Tk) (cv : Value) (cl : List UInt8) (mv : Value) (ms : List Tk) (w : World) (h0 : Sl ETok w (fun k => k < w.heap.size) v ts) (q0 : Q0) (h1 : BytesS w (fun k => k < w.heap.size) cv cl) (q1 : Q1) (h3 : Sl ETok w (fun k => k < w.heap.size) mv ms) (q3 : Q3) :
    Calls Tryd.prog 6 #[v, cv, mv] w fun e w' => e = .returned (.bool true) ∧ Below w.heap.size w w' :=
  (walks_walk v cv mv ts cl ms w (h0.more ETok.ok fun _ _ _ => trivial) (h1.more EU8.ok fun _ _ _ => trivial) (h3.more ETok.ok fun _ _ _ => trivial)).mono fun e w' h => ⟨h.1, h.2.toBelow⟩
end Go.Proofs.YtjdpljjbgggpiaaDoor
