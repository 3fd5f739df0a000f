/- What is put is got; what stood there, put again, brings the value back; a value with it is sound: the walk. -/
import Derived.Test.YtjdpljjbgggpiaaDoorPathAid
import Derived.Test.YtjdpljjbgggpiaaDoorPathLaw
import Derived.Test.YtjdpljjbgggpiaaDoorRefSound
import Derived.Test.YtjdpljjbgggpiaaDoorLawAid0
set_option linter.unusedSimpArgs false
set_option linter.unusedVariables false
namespace Go.Proofs.YtjdpljjbgggpiaaDoor
open Go.RowKit
set_option linter.unusedVariables false
theorem back_law {x m : V} {p : List St} (hx : SV x) (hm : SV m) (hxs : x.size ≤ 241) (hms : m.size ≤ 241) (hw : ∃ y, getV x p = some y) : ∃ old z : V, getV x p = some old ∧ putV x p m = some z ∧ getV z p = some m ∧ putV z p old = some x ∧ SV z ∧ z.size ≤ 1000 ∧ old.size ≤ 1000 := by
  obtain ⟨old, h5⟩ := hw
  obtain ⟨z, hz⟩ : ∃ z, putV x p m = some z := Option.isSome_iff_exists.1 (by rw [← putV_some, h5]; rfl)
  have h1 := get_put p x m z hz
  have h2 := put_back p x m z old hz h5
  have h3 := putV_size p x m z hz
  have h4 := getV_size _ _ _ h5
  exact ⟨old, z, h5, hz, h1, h2, putV_sv p x m z hx hm hz, by omega, by omega⟩
set_option maxHeartbeats 12800000 in
theorem back_walk (lv cv mv : Value) (ts : List Tk) (cl : List UInt8) (ms : List Tk) (w : World) (hl : Sl ETok w (fun _ => True) lv ts) (hc : BytesS w (fun _ => True) cv cl) (hm : Sl ETok w (fun _ => True) mv ms) (hv : ValAsc w) :
    Calls Tryd.prog 7 #[lv, cv, mv] w fun e w' => e = .returned (.bool true) ∧ Ext w w' := by
  obtain ⟨A, c, rfl, _, _⟩ := hl.shape
  obtain ⟨Ac, cc, rfl, _, _⟩ := hc.shape
  obtain ⟨Am, cm, rfl, _, _⟩ := hm.shape
  have HL := hid hl
  have HC := hid hc
  have HM := hid hm
  have HVA := hid hv
  clear hl hc hm hv
  go_enter Tryd.func7, Tryd.ntmps7
  have hend : ∀ wx, Ext w wx → Calls Tryd.prog 11 #[] wx fun e w' => e = .returned (.bool true) ∧ Ext w w' := fun wx h => (known3_ok wx).mono fun e w' h2 => ⟨h2.1, h.ext h2.2⟩
  have HEND := hid hend
  clear hend
  have HEW := hid (Keep.refl (fun _ => False) w)
  go_wp2_with fail
  refine (heavy_ok _ _ _ _ _ _ [] HL.out (Sl.nil _ (fun _ => True))).mono ?_
  rintro e w1 ⟨bw1, rfl, hb, hE⟩
  
  clear hb
  replace HL := hid (HL.out.ext ETok.ok hE)
  replace HM := hid (HM.out.ext ETok.ok hE)
  replace HC := hid (HC.out.ext EU8.ok hE)
  replace HEW := hid (HEW.out.ext hE)
  clear hE
  cases bw1 with
  | true =>
    go_wp2_with fail
    refine (HEND.out _ HEW.out).mono ?_
    rintro e w2 ⟨rfl, hz⟩
    have HZ := hid hz
    clear hz
    go_wp2
    go_ret
    exact ⟨rfl, HZ.out⟩
  | false =>
    go_wp2_with fail
    refine (heavy_ok _ _ _ _ _ _ [] HM.out (Sl.nil _ (fun _ => True))).mono ?_
    rintro e w3 ⟨bw3, rfl, hb, hE⟩
    
    clear hb
    replace HL := hid (HL.out.ext ETok.ok hE)
    replace HM := hid (HM.out.ext ETok.ok hE)
    replace HC := hid (HC.out.ext EU8.ok hE)
    replace HEW := hid (HEW.out.ext hE)
    clear hE
    cases bw3 with
    | true =>
      go_wp2_with fail
      refine (HEND.out _ HEW.out).mono ?_
      rintro e w4 ⟨rfl, hz⟩
      have HZ := hid hz
      clear hz
      go_wp2
      go_ret
      exact ⟨rfl, HZ.out⟩
    | false =>
      by_cases hlcl : 20 < cl.length
      · have hlXcl : (20 : Int) < cl.length := by omega
        go_wp2_with fail
        refine (HEND.out _ HEW.out).mono ?_
        rintro e w5 ⟨rfl, hz⟩
        have HZ := hid hz
        clear hz
        go_wp2
        go_ret
        exact ⟨rfl, HZ.out⟩
      · have hlXcl : ¬ (20 : Int) < cl.length := by omega
        go_wp2_with fail
        refine (known3_ok _).mono ?_
        rintro e w6 ⟨rfl, hE⟩
        replace HL := hid (HL.out.ext ETok.ok hE)
        replace HM := hid (HM.out.ext ETok.ok hE)
        replace HC := hid (HC.out.ext EU8.ok hE)
        replace HEW := hid (HEW.out.ext hE)
        clear hE HEND
        go_wp2_with fail
        refine (build_ok _ _ _ _ HL.out).mono ?_
        rintro e w7 ⟨u, x, rfl, hsv, hsz, ⟨lx, ox, rfl, hlx, hox⟩, hE⟩
        obtain ⟨Ax1, cx1, rfl, _⟩ := hlx.shape
        obtain ⟨Ax2, cx2, rfl, _⟩ := hox.shape
        have HSx := hid (And.intro hsv hsz)
        clear hsv hsz
        have hA : Ext w7 (w7.alloc (.cells #[U8 x.kind, .int .i64 x.n, .string x.s, .slice Ax1 x.l.length cx1, .slice Ax2 x.o.length cx2] TVAL)) := (Keep.refl _ _).alloc _
        replace HL := hid (HL.out.ext ETok.ok (hE.ext hA))
        replace HM := hid (HM.out.ext ETok.ok (hE.ext hA))
        replace HC := hid (HC.out.ext EU8.ok (hE.ext hA))
        replace HEW := hid (HEW.out.ext (hE.ext hA))
        have HBx := hid (Blk.new w7 TVAL #[U8 x.kind, .int .i64 x.n, .string x.s, .slice Ax1 x.l.length cx1, .slice Ax2 x.o.length cx2])
        have HVx := hid (show VAt (w7.alloc (.cells #[U8 x.kind, .int .i64 x.n, .string x.s, .slice Ax1 x.l.length cx1, .slice Ax2 x.o.length cx2] TVAL)) (fun _ => True) (.agg #[U8 x.kind, .int .i64 x.n, .string x.s, .slice Ax1 x.l.length cx1, .slice Ax2 x.o.length cx2]) x from VAt.ext (VAt.more ⟨_, _, rfl, hlx, hox⟩ fun _ _ _ => trivial) hA)
        clear hA
        clear hlx hox hE
        go_wp2_with fail
        generalize w7.alloc (.cells #[U8 x.kind, .int .i64 x.n, .string x.s, .slice Ax1 x.l.length cx1, .slice Ax2 x.o.length cx2] TVAL) = w8 at *
        refine (build_ok _ _ _ _ HM.out).mono ?_
        rintro e w9 ⟨u, m, rfl, hsv, hsz, ⟨lx, ox, rfl, hlx, hox⟩, hE⟩
        obtain ⟨Am1, cm1, rfl, _⟩ := hlx.shape
        obtain ⟨Am2, cm2, rfl, _⟩ := hox.shape
        have HSm := hid (And.intro hsv hsz)
        clear hsv hsz
        have hA : Ext w9 (w9.alloc (.cells #[U8 m.kind, .int .i64 m.n, .string m.s, .slice Am1 m.l.length cm1, .slice Am2 m.o.length cm2] TVAL)) := (Keep.refl _ _).alloc _
        replace HL := hid (HL.out.ext ETok.ok (hE.ext hA))
        replace HM := hid (HM.out.ext ETok.ok (hE.ext hA))
        replace HC := hid (HC.out.ext EU8.ok (hE.ext hA))
        replace HEW := hid (HEW.out.ext (hE.ext hA))
        replace HBx := hid (HBx.out.keep (hE.ext hA) id)
        replace HVx := hid (HVx.out.ext (hE.ext hA))
        have HBm := hid (Blk.new w9 TVAL #[U8 m.kind, .int .i64 m.n, .string m.s, .slice Am1 m.l.length cm1, .slice Am2 m.o.length cm2])
        have HVm := hid (show VAt (w9.alloc (.cells #[U8 m.kind, .int .i64 m.n, .string m.s, .slice Am1 m.l.length cm1, .slice Am2 m.o.length cm2] TVAL)) (fun _ => True) (.agg #[U8 m.kind, .int .i64 m.n, .string m.s, .slice Am1 m.l.length cm1, .slice Am2 m.o.length cm2]) m from VAt.ext (VAt.more ⟨_, _, rfl, hlx, hox⟩ fun _ _ _ => trivial) hA)
        clear hA
        clear hlx hox hE
        obtain ⟨qx0, qx1, qx2, qx3, qx4⟩ := blk5 HBx.out
        go_wp2_with fail
        generalize w9.alloc (.cells #[U8 m.kind, .int .i64 m.n, .string m.s, .slice Am1 m.l.length cm1, .slice Am2 m.o.length cm2] TVAL) = w10 at *
        refine (walk_ok x _ _ cl _ _ _ HVx.out HSx.out.1 (by have := HSx.out.2; omega) HC.out).mono ?_
        rintro e w11 ⟨u, p, rfl, hp, hwk, hE⟩
        obtain ⟨Ap, cp, rfl, hpl, hpm⟩ := hp.shape
        have HPp := hid ((hp.sl ESt.ok).more ESt.ok (S' := fun _ => True) fun _ _ _ => trivial)
        have HWp := hid hwk
        clear hp hwk
        replace HL := hid (HL.out.ext ETok.ok hE)
        replace HM := hid (HM.out.ext ETok.ok hE)
        replace HC := hid (HC.out.ext EU8.ok hE)
        replace HEW := hid (HEW.out.ext hE)
        replace HBx := hid (HBx.out.keep hE id)
        replace HVx := hid (HVx.out.ext hE)
        replace HBm := hid (HBm.out.keep hE id)
        replace HVm := hid (HVm.out.ext hE)
        clear hE
        clear qx0 qx1 qx2 qx3 qx4
        obtain ⟨old, z, hq1, hq2, hq3, hq4, hq5, hq6, hq7⟩ := back_law HSx.out.1 HSm.out.1 HSx.out.2 HSm.out.2 HWp.out.get
        have H1 := hid hq1
        have H2 := hid hq2
        have H3 := hid hq3
        have H4 := hid hq4
        have H5 := hid hq5
        have H6 := hid (And.intro hq6 hq7)
        clear hq1 hq2 hq3 hq4 hq5 hq6 hq7
        obtain ⟨qx0, qx1, qx2, qx3, qx4⟩ := blk5 HBx.out
        go_wp2_with fail
        refine (path_get _ _ _ _ _ _ _ HVx.out HPp.out (by have := HSx.out.2; omega)).mono ?_
        rintro e w12 hg
        rw [H1.out] at hg
        obtain ⟨u, rfl, hva, hE⟩ := hg.val
        obtain ⟨ly, oy, rfl, hly, hoy⟩ := hva
        obtain ⟨Aa1, ca1, rfl, _⟩ := hly.shape
        obtain ⟨Aa2, ca2, rfl, _⟩ := hoy.shape
        have hA : Ext w12 (w12.alloc (.cells #[U8 old.kind, .int .i64 old.n, .string old.s, .slice Aa1 old.l.length ca1, .slice Aa2 old.o.length ca2] TVAL)) := (Keep.refl _ _).alloc _
        replace HL := hid (HL.out.ext ETok.ok (hE.ext hA))
        replace HM := hid (HM.out.ext ETok.ok (hE.ext hA))
        replace HC := hid (HC.out.ext EU8.ok (hE.ext hA))
        replace HEW := hid (HEW.out.ext (hE.ext hA))
        replace HBx := hid (HBx.out.keep (hE.ext hA) id)
        replace HVx := hid (HVx.out.ext (hE.ext hA))
        replace HBm := hid (HBm.out.keep (hE.ext hA) id)
        replace HVm := hid (HVm.out.ext (hE.ext hA))
        replace HPp := hid (HPp.out.ext ESt.ok (hE.ext hA))
        have HBa := hid (Blk.new w12 TVAL #[U8 old.kind, .int .i64 old.n, .string old.s, .slice Aa1 old.l.length ca1, .slice Aa2 old.o.length ca2])
        have HVa := hid (show VAt (w12.alloc (.cells #[U8 old.kind, .int .i64 old.n, .string old.s, .slice Aa1 old.l.length ca1, .slice Aa2 old.o.length ca2] TVAL)) (fun _ => True) (.agg #[U8 old.kind, .int .i64 old.n, .string old.s, .slice Aa1 old.l.length ca1, .slice Aa2 old.o.length ca2]) old from VAt.ext (VAt.more ⟨_, _, rfl, hly, hoy⟩ fun _ _ _ => trivial) hA)
        clear hA
        clear hly hoy hE
        clear qx0 qx1 qx2 qx3 qx4
        obtain ⟨qx0, qx1, qx2, qx3, qx4⟩ := blk5 HBx.out
        obtain ⟨qm0, qm1, qm2, qm3, qm4⟩ := blk5 HBm.out
        go_wp2_with fail
        generalize w12.alloc (.cells #[U8 old.kind, .int .i64 old.n, .string old.s, .slice Aa1 old.l.length ca1, .slice Aa2 old.o.length ca2] TVAL) = w13 at *
        refine (path_put _ _ _ _ _ _ _ _ _ _ HVx.out HVm.out HPp.out (by have := HSx.out.2; omega) (by have := HSm.out.2; omega)).mono ?_
        rintro e w14 hg
        rw [H2.out] at hg
        obtain ⟨u, rfl, hva, hE⟩ := hg
        obtain ⟨ly, oy, rfl, hly, hoy⟩ := hva
        obtain ⟨Ab1, cb1, rfl, _⟩ := hly.shape
        obtain ⟨Ab2, cb2, rfl, _⟩ := hoy.shape
        have hA : Ext w14 (w14.alloc (.cells #[U8 z.kind, .int .i64 z.n, .string z.s, .slice Ab1 z.l.length cb1, .slice Ab2 z.o.length cb2] TVAL)) := (Keep.refl _ _).alloc _
        replace HL := hid (HL.out.ext ETok.ok (hE.ext hA))
        replace HM := hid (HM.out.ext ETok.ok (hE.ext hA))
        replace HC := hid (HC.out.ext EU8.ok (hE.ext hA))
        replace HEW := hid (HEW.out.ext (hE.ext hA))
        replace HBx := hid (HBx.out.keep (hE.ext hA) id)
        replace HVx := hid (HVx.out.ext (hE.ext hA))
        replace HBm := hid (HBm.out.keep (hE.ext hA) id)
        replace HVm := hid (HVm.out.ext (hE.ext hA))
        replace HPp := hid (HPp.out.ext ESt.ok (hE.ext hA))
        replace HBa := hid (HBa.out.keep (hE.ext hA) id)
        replace HVa := hid (HVa.out.ext (hE.ext hA))
        have HBb := hid (Blk.new w14 TVAL #[U8 z.kind, .int .i64 z.n, .string z.s, .slice Ab1 z.l.length cb1, .slice Ab2 z.o.length cb2])
        have HVb := hid (show VAt (w14.alloc (.cells #[U8 z.kind, .int .i64 z.n, .string z.s, .slice Ab1 z.l.length cb1, .slice Ab2 z.o.length cb2] TVAL)) (fun _ => True) (.agg #[U8 z.kind, .int .i64 z.n, .string z.s, .slice Ab1 z.l.length cb1, .slice Ab2 z.o.length cb2]) z from VAt.ext (VAt.more ⟨_, _, rfl, hly, hoy⟩ fun _ _ _ => trivial) hA)
        clear hA
        clear hly hoy hE
        clear qx0 qx1 qx2 qx3 qx4 qm0 qm1 qm2 qm3 qm4
        obtain ⟨qb0, qb1, qb2, qb3, qb4⟩ := blk5 HBb.out
        go_wp2_with fail
        generalize w14.alloc (.cells #[U8 z.kind, .int .i64 z.n, .string z.s, .slice Ab1 z.l.length cb1, .slice Ab2 z.o.length cb2] TVAL) = w15 at *
        refine (path_get _ _ _ _ _ _ _ HVb.out HPp.out (by have := H6.out.1; omega)).mono ?_
        rintro e w16 hg
        rw [H3.out] at hg
        obtain ⟨u, rfl, hva, hE⟩ := hg.val
        obtain ⟨ly, oy, rfl, hly, hoy⟩ := hva
        obtain ⟨Ac1, cc1, rfl, _⟩ := hly.shape
        obtain ⟨Ac2, cc2, rfl, _⟩ := hoy.shape
        have hA : Ext w16 (w16.alloc (.cells #[U8 m.kind, .int .i64 m.n, .string m.s, .slice Ac1 m.l.length cc1, .slice Ac2 m.o.length cc2] TVAL)) := (Keep.refl _ _).alloc _
        replace HL := hid (HL.out.ext ETok.ok (hE.ext hA))
        replace HM := hid (HM.out.ext ETok.ok (hE.ext hA))
        replace HC := hid (HC.out.ext EU8.ok (hE.ext hA))
        replace HEW := hid (HEW.out.ext (hE.ext hA))
        replace HBx := hid (HBx.out.keep (hE.ext hA) id)
        replace HVx := hid (HVx.out.ext (hE.ext hA))
        replace HBm := hid (HBm.out.keep (hE.ext hA) id)
        replace HVm := hid (HVm.out.ext (hE.ext hA))
        replace HPp := hid (HPp.out.ext ESt.ok (hE.ext hA))
        replace HBa := hid (HBa.out.keep (hE.ext hA) id)
        replace HVa := hid (HVa.out.ext (hE.ext hA))
        replace HBb := hid (HBb.out.keep (hE.ext hA) id)
        replace HVb := hid (HVb.out.ext (hE.ext hA))
        have HBc := hid (Blk.new w16 TVAL #[U8 m.kind, .int .i64 m.n, .string m.s, .slice Ac1 m.l.length cc1, .slice Ac2 m.o.length cc2])
        have HVc := hid (show VAt (w16.alloc (.cells #[U8 m.kind, .int .i64 m.n, .string m.s, .slice Ac1 m.l.length cc1, .slice Ac2 m.o.length cc2] TVAL)) (fun _ => True) (.agg #[U8 m.kind, .int .i64 m.n, .string m.s, .slice Ac1 m.l.length cc1, .slice Ac2 m.o.length cc2]) m from VAt.ext (VAt.more ⟨_, _, rfl, hly, hoy⟩ fun _ _ _ => trivial) hA)
        clear hA
        clear hly hoy hE
        clear qb0 qb1 qb2 qb3 qb4
        obtain ⟨qb0, qb1, qb2, qb3, qb4⟩ := blk5 HBb.out
        obtain ⟨qa0, qa1, qa2, qa3, qa4⟩ := blk5 HBa.out
        go_wp2_with fail
        generalize w16.alloc (.cells #[U8 m.kind, .int .i64 m.n, .string m.s, .slice Ac1 m.l.length cc1, .slice Ac2 m.o.length cc2] TVAL) = w17 at *
        refine (path_put _ _ _ _ _ _ _ _ _ _ HVb.out HVa.out HPp.out (by have := H6.out.1; omega) (by have := H6.out.2; omega)).mono ?_
        rintro e w18 hg
        rw [H4.out] at hg
        obtain ⟨u, rfl, hva, hE⟩ := hg
        obtain ⟨ly, oy, rfl, hly, hoy⟩ := hva
        obtain ⟨Ad1, cd1, rfl, _⟩ := hly.shape
        obtain ⟨Ad2, cd2, rfl, _⟩ := hoy.shape
        have hA : Ext w18 (w18.alloc (.cells #[U8 x.kind, .int .i64 x.n, .string x.s, .slice Ad1 x.l.length cd1, .slice Ad2 x.o.length cd2] TVAL)) := (Keep.refl _ _).alloc _
        replace HL := hid (HL.out.ext ETok.ok (hE.ext hA))
        replace HM := hid (HM.out.ext ETok.ok (hE.ext hA))
        replace HC := hid (HC.out.ext EU8.ok (hE.ext hA))
        replace HEW := hid (HEW.out.ext (hE.ext hA))
        replace HBx := hid (HBx.out.keep (hE.ext hA) id)
        replace HVx := hid (HVx.out.ext (hE.ext hA))
        replace HBm := hid (HBm.out.keep (hE.ext hA) id)
        replace HVm := hid (HVm.out.ext (hE.ext hA))
        replace HPp := hid (HPp.out.ext ESt.ok (hE.ext hA))
        replace HBa := hid (HBa.out.keep (hE.ext hA) id)
        replace HVa := hid (HVa.out.ext (hE.ext hA))
        replace HBb := hid (HBb.out.keep (hE.ext hA) id)
        replace HVb := hid (HVb.out.ext (hE.ext hA))
        replace HBc := hid (HBc.out.keep (hE.ext hA) id)
        replace HVc := hid (HVc.out.ext (hE.ext hA))
        have HBd := hid (Blk.new w18 TVAL #[U8 x.kind, .int .i64 x.n, .string x.s, .slice Ad1 x.l.length cd1, .slice Ad2 x.o.length cd2])
        have HVd := hid (show VAt (w18.alloc (.cells #[U8 x.kind, .int .i64 x.n, .string x.s, .slice Ad1 x.l.length cd1, .slice Ad2 x.o.length cd2] TVAL)) (fun _ => True) (.agg #[U8 x.kind, .int .i64 x.n, .string x.s, .slice Ad1 x.l.length cd1, .slice Ad2 x.o.length cd2]) x from VAt.ext (VAt.more ⟨_, _, rfl, hly, hoy⟩ fun _ _ _ => trivial) hA)
        clear hA
        clear hly hoy hE
        clear qb0 qb1 qb2 qb3 qb4 qa0 qa1 qa2 qa3 qa4
        obtain ⟨qm0, qm1, qm2, qm3, qm4⟩ := blk5 HBm.out
        obtain ⟨qc0, qc1, qc2, qc3, qc4⟩ := blk5 HBc.out
        go_wp2_with fail
        generalize w18.alloc (.cells #[U8 x.kind, .int .i64 x.n, .string x.s, .slice Ad1 x.l.length cd1, .slice Ad2 x.o.length cd2] TVAL) = w19 at *
        refine (same_eq _ m (Nat.le_refl _) _ _ _ _ _ HVm.out HVc.out).mono ?_
        rintro e w20 ⟨rfl, hE⟩
        replace HL := hid (HL.out.ext ETok.ok hE)
        replace HM := hid (HM.out.ext ETok.ok hE)
        replace HC := hid (HC.out.ext EU8.ok hE)
        replace HEW := hid (HEW.out.ext hE)
        replace HBx := hid (HBx.out.keep hE id)
        replace HVx := hid (HVx.out.ext hE)
        replace HBm := hid (HBm.out.keep hE id)
        replace HVm := hid (HVm.out.ext hE)
        replace HPp := hid (HPp.out.ext ESt.ok hE)
        replace HBa := hid (HBa.out.keep hE id)
        replace HVa := hid (HVa.out.ext hE)
        replace HBb := hid (HBb.out.keep hE id)
        replace HVb := hid (HVb.out.ext hE)
        replace HBc := hid (HBc.out.keep hE id)
        replace HVc := hid (HVc.out.ext hE)
        replace HBd := hid (HBd.out.keep hE id)
        replace HVd := hid (HVd.out.ext hE)
        clear hE
        clear qm0 qm1 qm2 qm3 qm4 qc0 qc1 qc2 qc3 qc4
        obtain ⟨qd0, qd1, qd2, qd3, qd4⟩ := blk5 HBd.out
        obtain ⟨qx0, qx1, qx2, qx3, qx4⟩ := blk5 HBx.out
        go_wp2_with fail
        refine (same_eq _ x (Nat.le_refl _) _ _ _ _ _ HVd.out HVx.out).mono ?_
        rintro e w21 ⟨rfl, hE⟩
        replace HL := hid (HL.out.ext ETok.ok hE)
        replace HM := hid (HM.out.ext ETok.ok hE)
        replace HC := hid (HC.out.ext EU8.ok hE)
        replace HEW := hid (HEW.out.ext hE)
        replace HBx := hid (HBx.out.keep hE id)
        replace HVx := hid (HVx.out.ext hE)
        replace HBm := hid (HBm.out.keep hE id)
        replace HVm := hid (HVm.out.ext hE)
        replace HPp := hid (HPp.out.ext ESt.ok hE)
        replace HBa := hid (HBa.out.keep hE id)
        replace HVa := hid (HVa.out.ext hE)
        replace HBb := hid (HBb.out.keep hE id)
        replace HVb := hid (HVb.out.ext hE)
        replace HBc := hid (HBc.out.keep hE id)
        replace HVc := hid (HVc.out.ext hE)
        replace HBd := hid (HBd.out.keep hE id)
        replace HVd := hid (HVd.out.ext hE)
        clear hE
        clear qd0 qd1 qd2 qd3 qd4 qx0 qx1 qx2 qx3 qx4
        obtain ⟨qb0, qb1, qb2, qb3, qb4⟩ := blk5 HBb.out
        go_wp2_with fail
        refine (rsound_ok _ HVA.out _ z (Nat.le_refl _) H5.out _ _ _ HEW.out HVb.out).mono ?_
        rintro e we2 ⟨rfl, hE⟩
        replace HEW := hid (HEW.out.ext hE)
        clear hE
        go_wp2
        go_ret
        exact ⟨rfl, HEW.out⟩
theorem back_lift {Q0 Q1 Q3 : Prop} (v : Value) (ts : List Tk) (cv : Value) (cl : List UInt8) (mv : Value) (ms : List Tk) (w : World) (h0 : Sl ETok w (fun k => k < w.heap.size) v ts) (q0 : Q0) (h1 : BytesS w (fun k => k < w.heap.size) cv cl) (q1 : Q1) (h3 : Sl ETok w (fun k => k < w.heap.size) mv ms) (q3 : Q3) (hv : ValAsc w) :
    Calls Tryd.prog 7 #[v, cv, mv] w fun e w' => e = .returned (.bool true) ∧ Below w.heap.size w w' :=
  (back_walk v cv mv ts cl ms w (h0.more ETok.ok fun _ _ _ => trivial) (h1.more EU8.ok fun _ _ _ => trivial) (h3.more ETok.ok fun _ _ _ => trivial) hv).mono fun e w' h => ⟨h.1, h.2.toBelow⟩
end Go.Proofs.YtjdpljjbgggpiaaDoor
