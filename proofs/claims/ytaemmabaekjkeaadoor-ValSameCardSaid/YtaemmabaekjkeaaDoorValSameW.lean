/- Same of any two values is what the chapter says; of one with itself it is so: the walk. -/
import Derived.Test.YtaemmabaekjkeaaDoorLawKnown1
import Derived.Test.YtaemmabaekjkeaaDoorLawHeavy1
import Derived.Test.YtaemmabaekjkeaaDoorLawRaw
import Derived.Test.YtaemmabaekjkeaaDoorRefSameAny
import Derived.Test.YtaemmabaekjkeaaDoorValSame
set_option linter.unusedSimpArgs false
set_option linter.unusedVariables false
namespace Go.Proofs.YtaemmabaekjkeaaDoor
open Go.RowKit
set_option linter.unusedVariables false
set_option maxRecDepth 20000 in
set_option maxHeartbeats 12800000 in
theorem same_walk (lv : Value) (mv : Value) (ts : List Tk) (ms : List Tk)  (w : World) (hts : Sl ETok w (fun _ => True) lv ts) (hms : Sl ETok w (fun _ => True) mv ms) (hv : ValAny w) :
    Calls Tryd.prog 4 #[lv, mv] w fun e w' => e = .returned (.bool true) ∧ Ext w w' := by
  obtain ⟨Ats, cts, rfl, _, _⟩ := hts.shape
  have HL := hid hts
  clear hts
  obtain ⟨Ams, cms, rfl, _, _⟩ := hms.shape
  have HM := hid hms
  clear hms
  have HVA := hid hv
  clear hv
  go_enter Tryd.func4, Tryd.ntmps4
  have hend : ∀ wx, Ext w wx → Calls Tryd.prog 10 #[] wx fun e w' => e = .returned (.bool true) ∧ Ext w w' := fun wx h => (known1_ok w wx HVA.out h).mono fun e w' h2 => ⟨h2.1, h.ext h2.2⟩
  have HEND := hid hend
  clear hend
  have HEW := hid (Keep.refl (fun _ => False) w)
  go_wp2_with fail
  refine (heavy1_ok _ _ _ _ HL.out).mono ?_
  rintro e w1 ⟨bw1, rfl, hb, hE⟩
  clear hb
  replace HL := hid (HL.out.ext ETok.ok hE)
  replace HM := hid (HM.out.ext ETok.ok hE)
  replace HEW := hid (HEW.out.ext hE)
  clear hE
  cases bw1 with
  | true =>
    go_wp2_with fail
    refine (HEND.out _ HEW.out).mono ?_
    rintro e w2 ⟨rfl, hz⟩
    have HZ := hid hz
    clear hz
    go_wp2
    go_ret
    exact ⟨rfl, HZ.out⟩
  | false =>
    go_wp2_with fail
    refine (heavy1_ok _ _ _ _ HM.out).mono ?_
    rintro e w3 ⟨bw3, rfl, hb, hE⟩
    clear hb
    replace HL := hid (HL.out.ext ETok.ok hE)
    replace HM := hid (HM.out.ext ETok.ok hE)
    replace HEW := hid (HEW.out.ext hE)
    clear hE
    cases bw3 with
    | true =>
      go_wp2_with fail
      refine (HEND.out _ HEW.out).mono ?_
      rintro e w4 ⟨rfl, hz⟩
      have HZ := hid hz
      clear hz
      go_wp2
      go_ret
      exact ⟨rfl, HZ.out⟩
    | false =>
      go_wp2_with fail
      refine (known1_ok w _ HVA.out HEW.out).mono ?_
      rintro e w5 ⟨rfl, hE⟩
      replace HL := hid (HL.out.ext ETok.ok hE)
      replace HM := hid (HM.out.ext ETok.ok hE)
      replace HEW := hid (HEW.out.ext hE)
      clear hE HEND
      go_wp2_with fail
      refine (rawall2_ok _ _ _ _ HL.out).mono ?_
      rintro e w6 ⟨u, x, rfl, hsz, ⟨lx, ox, rfl, hlx, hox⟩, hE⟩
      obtain ⟨Ax1, cx1, rfl, _⟩ := hlx.shape
      obtain ⟨Ax2, cx2, rfl, _⟩ := hox.shape
      have HSx := hid hsz
      clear hsz
      have hA : Ext w6 (w6.alloc (.cells #[U8 x.kind, .int .i64 x.n, .string x.s, .slice Ax1 x.l.length cx1, .slice Ax2 x.o.length cx2] TVAL)) := (Keep.refl _ _).alloc _
      replace HL := hid (HL.out.ext ETok.ok (hE.ext hA))
      replace HM := hid (HM.out.ext ETok.ok (hE.ext hA))
      replace HEW := hid (HEW.out.ext (hE.ext hA))
      have HBx := hid (Blk.new w6 TVAL #[U8 x.kind, .int .i64 x.n, .string x.s, .slice Ax1 x.l.length cx1, .slice Ax2 x.o.length cx2])
      have HVx := hid (show VAt (w6.alloc (.cells #[U8 x.kind, .int .i64 x.n, .string x.s, .slice Ax1 x.l.length cx1, .slice Ax2 x.o.length cx2] TVAL)) (fun _ => True) (.agg #[U8 x.kind, .int .i64 x.n, .string x.s, .slice Ax1 x.l.length cx1, .slice Ax2 x.o.length cx2]) x from VAt.ext (VAt.more ⟨_, _, rfl, hlx, hox⟩ fun _ _ _ => trivial) hA)
      clear hA
      clear hlx hox hE
      go_wp2_with fail
      generalize w6.alloc (.cells #[U8 x.kind, .int .i64 x.n, .string x.s, .slice Ax1 x.l.length cx1, .slice Ax2 x.o.length cx2] TVAL) = w7 at *
      refine (rawall2_ok _ _ _ _ HM.out).mono ?_
      rintro e w8 ⟨u, y, rfl, hsz, ⟨lx, ox, rfl, hlx, hox⟩, hE⟩
      obtain ⟨Ay1, cy1, rfl, _⟩ := hlx.shape
      obtain ⟨Ay2, cy2, rfl, _⟩ := hox.shape
      have HSy := hid hsz
      clear hsz
      have hA : Ext w8 (w8.alloc (.cells #[U8 y.kind, .int .i64 y.n, .string y.s, .slice Ay1 y.l.length cy1, .slice Ay2 y.o.length cy2] TVAL)) := (Keep.refl _ _).alloc _
      replace HL := hid (HL.out.ext ETok.ok (hE.ext hA))
      replace HM := hid (HM.out.ext ETok.ok (hE.ext hA))
      replace HEW := hid (HEW.out.ext (hE.ext hA))
      replace HBx := hid (HBx.out.keep (hE.ext hA) id)
      replace HVx := hid (HVx.out.ext (hE.ext hA))
      have HBy := hid (Blk.new w8 TVAL #[U8 y.kind, .int .i64 y.n, .string y.s, .slice Ay1 y.l.length cy1, .slice Ay2 y.o.length cy2])
      have HVy := hid (show VAt (w8.alloc (.cells #[U8 y.kind, .int .i64 y.n, .string y.s, .slice Ay1 y.l.length cy1, .slice Ay2 y.o.length cy2] TVAL)) (fun _ => True) (.agg #[U8 y.kind, .int .i64 y.n, .string y.s, .slice Ay1 y.l.length cy1, .slice Ay2 y.o.length cy2]) y from VAt.ext (VAt.more ⟨_, _, rfl, hlx, hox⟩ fun _ _ _ => trivial) hA)
      clear hA
      clear hlx hox hE
      obtain ⟨b, hb⟩ := em_bool (x = y)
      have HB := hid hb
      have HB2 := hid (show b = true ↔ y = x from ⟨fun h => (hb.1 h).symm, fun h => hb.2 h.symm⟩)
      have hbb : (b == b) = true := by simp
      clear hb
      obtain ⟨qx0, qx1, qx2, qx3, qx4⟩ := blk5 HBx.out
      obtain ⟨qy0, qy1, qy2, qy3, qy4⟩ := blk5 HBy.out
      go_wp2_with fail
      generalize w8.alloc (.cells #[U8 y.kind, .int .i64 y.n, .string y.s, .slice Ay1 y.l.length cy1, .slice Ay2 y.o.length cy2] TVAL) = w9 at *
      refine wp_region_grow (specOf [(2, fun v _ => v = .bool b), (5, fun v _ => v = .bool b), (10, fun v _ => v = .bool true), (15, fun v _ => v = .bool b), (18, fun v _ => v = .bool b)]) (fun w' => Ext w9 w') (stable_cons (fun v w w' h he => h) (stable_cons (fun v w w' h he => h) (stable_cons (fun v w w' h he => h) (stable_cons (fun v w w' h he => h) (stable_cons (fun v w w' h he => h) stable_nil))))) (stableC_ext _) (by kernel_rfl) (by kernel_rfl) (Keep.drew (Keep.refl _ _)) ?_
      iterate 2
        (try simp only [Act.put, List.setIfInBounds_toArray, List.set_cons_zero, List.set_cons_succ])
        refine grow_run rfl rfl rfl ?_
        apply Exists.intro
        refine ⟨fun w' hC hK => ?_, ?_⟩
        · have qx0 := (hC.cell (lt_of_cell qx0) id).trans qx0
          have qx1 := (hC.cell (lt_of_cell qx1) id).trans qx1
          have qx2 := (hC.cell (lt_of_cell qx2) id).trans qx2
          have qx3 := (hC.cell (lt_of_cell qx3) id).trans qx3
          have qx4 := (hC.cell (lt_of_cell qx4) id).trans qx4
          have qy0 := (hC.cell (lt_of_cell qy0) id).trans qy0
          have qy1 := (hC.cell (lt_of_cell qy1) id).trans qy1
          have qy2 := (hC.cell (lt_of_cell qy2) id).trans qy2
          have qy3 := (hC.cell (lt_of_cell qy3) id).trans qy3
          have qy4 := (hC.cell (lt_of_cell qy4) id).trans qy4
          go_simp
          rfl
      (try simp only [Act.put, List.setIfInBounds_toArray, List.set_cons_zero, List.set_cons_succ])
      refine grow_eff rfl rfl rfl (fun w' hC hK => ?_) (fun v2 hv2 => ?_)
      · unfold growAt
        go_simp
        refine grow_call ((same_any _ x (Nat.le_refl _) y b HB.out _ _ _ _ _ (VAt.ext HVx.out hC) (VAt.ext HVy.out hC)).mono ?_)
        rintro e w'' ⟨rfl, h1⟩
        exact ⟨_, rfl, h1, rfl⟩
      obtain ⟨_, _, rfl⟩ := hv2.head
      iterate 2
        (try simp only [Act.put, List.setIfInBounds_toArray, List.set_cons_zero, List.set_cons_succ])
        refine grow_run rfl rfl rfl ?_
        apply Exists.intro
        refine ⟨fun w' hC hK => ?_, ?_⟩
        · have qx0 := (hC.cell (lt_of_cell qx0) id).trans qx0
          have qx1 := (hC.cell (lt_of_cell qx1) id).trans qx1
          have qx2 := (hC.cell (lt_of_cell qx2) id).trans qx2
          have qx3 := (hC.cell (lt_of_cell qx3) id).trans qx3
          have qx4 := (hC.cell (lt_of_cell qx4) id).trans qx4
          have qy0 := (hC.cell (lt_of_cell qy0) id).trans qy0
          have qy1 := (hC.cell (lt_of_cell qy1) id).trans qy1
          have qy2 := (hC.cell (lt_of_cell qy2) id).trans qy2
          have qy3 := (hC.cell (lt_of_cell qy3) id).trans qy3
          have qy4 := (hC.cell (lt_of_cell qy4) id).trans qy4
          go_simp
          rfl
      (try simp only [Act.put, List.setIfInBounds_toArray, List.set_cons_zero, List.set_cons_succ])
      refine grow_eff rfl rfl rfl (fun w' hC hK => ?_) (fun v5 hv5 => ?_)
      · unfold growAt
        go_simp
        refine grow_call ((rsame_any _ x y (Nat.le_refl _) b HB.out _ _ _ _ _ (VAt.ext HVx.out hC) (VAt.ext HVy.out hC)).mono ?_)
        rintro e w'' ⟨rfl, h1⟩
        exact ⟨_, rfl, h1, rfl⟩
      obtain ⟨_, _, rfl⟩ := hv5.head
      iterate 4
        (try simp only [Act.put, List.setIfInBounds_toArray, List.set_cons_zero, List.set_cons_succ])
        refine grow_run rfl rfl rfl ?_
        apply Exists.intro
        refine ⟨fun w' hC hK => ?_, ?_⟩
        · have qx0 := (hC.cell (lt_of_cell qx0) id).trans qx0
          have qx1 := (hC.cell (lt_of_cell qx1) id).trans qx1
          have qx2 := (hC.cell (lt_of_cell qx2) id).trans qx2
          have qx3 := (hC.cell (lt_of_cell qx3) id).trans qx3
          have qx4 := (hC.cell (lt_of_cell qx4) id).trans qx4
          have qy0 := (hC.cell (lt_of_cell qy0) id).trans qy0
          have qy1 := (hC.cell (lt_of_cell qy1) id).trans qy1
          have qy2 := (hC.cell (lt_of_cell qy2) id).trans qy2
          have qy3 := (hC.cell (lt_of_cell qy3) id).trans qy3
          have qy4 := (hC.cell (lt_of_cell qy4) id).trans qy4
          go_simp
          rfl
      (try simp only [Act.put, List.setIfInBounds_toArray, List.set_cons_zero, List.set_cons_succ])
      refine grow_eff rfl rfl rfl (fun w' hC hK => ?_) (fun v10 hv10 => ?_)
      · unfold growAt
        go_simp
        refine grow_call ((same_any _ x (Nat.le_refl _) x true (by simp) _ _ _ _ _ (VAt.ext HVx.out hC) (VAt.ext HVx.out hC)).mono ?_)
        rintro e w'' ⟨rfl, h1⟩
        exact ⟨_, rfl, h1, rfl⟩
      obtain ⟨_, _, rfl⟩ := hv10.head
      iterate 4
        (try simp only [Act.put, List.setIfInBounds_toArray, List.set_cons_zero, List.set_cons_succ])
        refine grow_run rfl rfl rfl ?_
        apply Exists.intro
        refine ⟨fun w' hC hK => ?_, ?_⟩
        · have qx0 := (hC.cell (lt_of_cell qx0) id).trans qx0
          have qx1 := (hC.cell (lt_of_cell qx1) id).trans qx1
          have qx2 := (hC.cell (lt_of_cell qx2) id).trans qx2
          have qx3 := (hC.cell (lt_of_cell qx3) id).trans qx3
          have qx4 := (hC.cell (lt_of_cell qx4) id).trans qx4
          have qy0 := (hC.cell (lt_of_cell qy0) id).trans qy0
          have qy1 := (hC.cell (lt_of_cell qy1) id).trans qy1
          have qy2 := (hC.cell (lt_of_cell qy2) id).trans qy2
          have qy3 := (hC.cell (lt_of_cell qy3) id).trans qy3
          have qy4 := (hC.cell (lt_of_cell qy4) id).trans qy4
          go_simp
          rfl
      (try simp only [Act.put, List.setIfInBounds_toArray, List.set_cons_zero, List.set_cons_succ])
      refine grow_eff rfl rfl rfl (fun w' hC hK => ?_) (fun v15 hv15 => ?_)
      · unfold growAt
        go_simp
        refine grow_call ((same_any _ x (Nat.le_refl _) y b HB.out _ _ _ _ _ (VAt.ext HVx.out hC) (VAt.ext HVy.out hC)).mono ?_)
        rintro e w'' ⟨rfl, h1⟩
        exact ⟨_, rfl, h1, rfl⟩
      obtain ⟨_, _, rfl⟩ := hv15.head
      iterate 2
        (try simp only [Act.put, List.setIfInBounds_toArray, List.set_cons_zero, List.set_cons_succ])
        refine grow_run rfl rfl rfl ?_
        apply Exists.intro
        refine ⟨fun w' hC hK => ?_, ?_⟩
        · have qx0 := (hC.cell (lt_of_cell qx0) id).trans qx0
          have qx1 := (hC.cell (lt_of_cell qx1) id).trans qx1
          have qx2 := (hC.cell (lt_of_cell qx2) id).trans qx2
          have qx3 := (hC.cell (lt_of_cell qx3) id).trans qx3
          have qx4 := (hC.cell (lt_of_cell qx4) id).trans qx4
          have qy0 := (hC.cell (lt_of_cell qy0) id).trans qy0
          have qy1 := (hC.cell (lt_of_cell qy1) id).trans qy1
          have qy2 := (hC.cell (lt_of_cell qy2) id).trans qy2
          have qy3 := (hC.cell (lt_of_cell qy3) id).trans qy3
          have qy4 := (hC.cell (lt_of_cell qy4) id).trans qy4
          go_simp
          rfl
      (try simp only [Act.put, List.setIfInBounds_toArray, List.set_cons_zero, List.set_cons_succ])
      refine grow_eff rfl rfl rfl (fun w' hC hK => ?_) (fun v18 hv18 => ?_)
      · unfold growAt
        go_simp
        refine grow_call ((same_any _ y (Nat.le_refl _) x b HB2.out _ _ _ _ _ (VAt.ext HVy.out hC) (VAt.ext HVx.out hC)).mono ?_)
        rintro e w'' ⟨rfl, h1⟩
        exact ⟨_, rfl, h1, rfl⟩
      obtain ⟨_, _, rfl⟩ := hv18.head
      iterate 3
        (try simp only [Act.put, List.setIfInBounds_toArray, List.set_cons_zero, List.set_cons_succ])
        refine grow_run rfl rfl rfl ?_
        apply Exists.intro
        refine ⟨fun w' hC hK => ?_, ?_⟩
        · have qx0 := (hC.cell (lt_of_cell qx0) id).trans qx0
          have qx1 := (hC.cell (lt_of_cell qx1) id).trans qx1
          have qx2 := (hC.cell (lt_of_cell qx2) id).trans qx2
          have qx3 := (hC.cell (lt_of_cell qx3) id).trans qx3
          have qx4 := (hC.cell (lt_of_cell qx4) id).trans qx4
          have qy0 := (hC.cell (lt_of_cell qy0) id).trans qy0
          have qy1 := (hC.cell (lt_of_cell qy1) id).trans qy1
          have qy2 := (hC.cell (lt_of_cell qy2) id).trans qy2
          have qy3 := (hC.cell (lt_of_cell qy3) id).trans qy3
          have qy4 := (hC.cell (lt_of_cell qy4) id).trans qy4
          go_simp
          rfl
      refine grow_nil fun wz hC _ => ?_
      have hC : Ext w9 wz := hC
      replace HL := hid (HL.out.ext ETok.ok hC)
      replace HM := hid (HM.out.ext ETok.ok hC)
      replace HEW := hid (HEW.out.ext hC)
      replace HBx := hid (HBx.out.keep hC id)
      replace HVx := hid (HVx.out.ext hC)
      replace HBy := hid (HBy.out.keep hC id)
      replace HVy := hid (HVy.out.ext hC)
      clear hC qx0 qx1 qx2 qx3 qx4 qy0 qy1 qy2 qy3 qy4
      go_wp2
      go_ret
      exact ⟨by first | rfl | simp, HEW.out⟩
theorem same_lift {Q0 Q1 : Prop} (lv : Value) (ts : List Tk) (mv : Value) (ms : List Tk) (w : World) (h0 : Sl ETok w (fun k => k < w.heap.size) lv ts) (q0 : Q0) (h1 : Sl ETok w (fun k => k < w.heap.size) mv ms) (q1 : Q1) (hv : ValAny w) :
    Calls Tryd.prog 4 #[lv, mv] w fun e w' => e = .returned (.bool true) ∧ Below w.heap.size w w' :=
  (same_walk lv mv ts ms  w (h0.more ETok.ok fun _ _ _ => trivial) (h1.more ETok.ok fun _ _ _ => trivial)  hv).mono fun e w' h => ⟨h.1, h.2.toBelow⟩
end Go.Proofs.YtaemmabaekjkeaaDoor
