/- Sound, Weight and Deep of any value are what the chapter says; it stays: the walk. -/
import Derived.Test.YtaemmabaekjkeaaDoorLawKnown1
import Derived.SizedLaws
import Derived.Test.YtaemmabaekjkeaaDoorLawRaw
import Derived.Test.YtaemmabaekjkeaaDoorRefWeight
import Derived.Test.YtaemmabaekjkeaaDoorRefSoundAny
import Derived.Test.YtaemmabaekjkeaaDoorValSound
set_option linter.unusedSimpArgs false
set_option linter.unusedVariables false
namespace Go.Proofs.YtaemmabaekjkeaaDoor
open Go.RowKit
set_option linter.unusedVariables false
set_option maxRecDepth 20000 in
set_option maxHeartbeats 12800000 in
theorem sounds_walk (lv : Value) (ts : List Tk)  (w : World) (hts : Sl ETok w (fun _ => True) lv ts) (hstr : ∀ t ∈ ts, t.s.size ≤ BigR) (hv : ValAny w) :
    Calls Tryd.prog 3 #[lv] w fun e w' => e = .returned (.bool true) ∧ Ext w w' := by
  obtain ⟨Ats, cts, rfl, _, _⟩ := hts.shape
  have HL := hid hts
  clear hts
  have HVA := hid hv
  have HSTR := hid hstr
  clear hv hstr
  go_enter Tryd.func3, Tryd.ntmps3
  have hend : ∀ wx, Ext w wx → Calls Tryd.prog 10 #[] wx fun e w' => e = .returned (.bool true) ∧ Ext w w' := fun wx h => (known1_ok w wx HVA.out h).mono fun e w' h2 => ⟨h2.1, h.ext h2.2⟩
  have HEND := hid hend
  clear hend
  have HEW := hid (Keep.refl (fun _ => False) w)
  go_wp2_with fail
  refine (heavy1_ok _ _ _ _ HL.out).mono ?_
  rintro e w1 ⟨bw1, rfl, hb, hE⟩
  clear hb
  replace HL := hid (HL.out.ext ETok.ok hE)
  replace HEW := hid (HEW.out.ext hE)
  clear hE
  cases bw1 with
  | true =>
    go_wp2_with fail
    refine (HEND.out _ HEW.out).mono ?_
    rintro e w2 ⟨rfl, hz⟩
    have HZ := hid hz
    clear hz
    go_wp2
    go_ret
    exact ⟨rfl, HZ.out⟩
  | false =>
    go_wp2_with fail
    refine (known1_ok w _ HVA.out HEW.out).mono ?_
    rintro e w3 ⟨rfl, hE⟩
    replace HL := hid (HL.out.ext ETok.ok hE)
    replace HEW := hid (HEW.out.ext hE)
    clear hE HEND
    go_wp2_with fail
    refine (rawall2_ok _ _ _ _ HL.out).mono ?_
    rintro e w4 ⟨u, x, rfl, hsz, ⟨lx, ox, rfl, hlx, hox⟩, hE⟩
    obtain ⟨Ax1, cx1, rfl, _⟩ := hlx.shape
    obtain ⟨Ax2, cx2, rfl, _⟩ := hox.shape
    have HSx := hid hsz
    clear hsz
    have hA : Ext w4 (w4.alloc (.cells #[U8 x.kind, .int .i64 x.n, .string x.s, .slice Ax1 x.l.length cx1, .slice Ax2 x.o.length cx2] TVAL)) := (Keep.refl _ _).alloc _
    replace HL := hid (HL.out.ext ETok.ok (hE.ext hA))
    replace HEW := hid (HEW.out.ext (hE.ext hA))
    have HBx := hid (Blk.new w4 TVAL #[U8 x.kind, .int .i64 x.n, .string x.s, .slice Ax1 x.l.length cx1, .slice Ax2 x.o.length cx2])
    have HVx := hid (show VAt (w4.alloc (.cells #[U8 x.kind, .int .i64 x.n, .string x.s, .slice Ax1 x.l.length cx1, .slice Ax2 x.o.length cx2] TVAL)) (fun _ => True) (.agg #[U8 x.kind, .int .i64 x.n, .string x.s, .slice Ax1 x.l.length cx1, .slice Ax2 x.o.length cx2]) x from VAt.ext (VAt.more ⟨_, _, rfl, hlx, hox⟩ fun _ _ _ => trivial) hA)
    clear hA
    clear hlx hox hE
    obtain ⟨qx0, qx1, qx2, qx3, qx4⟩ := blk5 HBx.out
    go_wp2_with fail
    generalize w4.alloc (.cells #[U8 x.kind, .int .i64 x.n, .string x.s, .slice Ax1 x.l.length cx1, .slice Ax2 x.o.length cx2] TVAL) = w5 at *
    refine (rcopy_any _ x (Nat.le_refl _) (by have := HSx.out.1; omega) _ _ _ HVx.out).mono ?_
    rintro e w6 hg
    obtain ⟨u, rfl, ⟨lx, ox, rfl, hlx, hox⟩, hE⟩ := hg.at_
    obtain ⟨Ay1, cy1, rfl, _⟩ := hlx.shape
    obtain ⟨Ay2, cy2, rfl, _⟩ := hox.shape
    clear hg
    have hA : Ext w6 (w6.alloc (.cells #[U8 x.kind, .int .i64 x.n, .string x.s, .slice Ay1 x.l.length cy1, .slice Ay2 x.o.length cy2] TVAL)) := (Keep.refl _ _).alloc _
    replace HL := hid (HL.out.ext ETok.ok (hE.ext hA))
    replace HEW := hid (HEW.out.ext (hE.ext hA))
    replace HBx := hid (HBx.out.keep (hE.ext hA) id)
    replace HVx := hid (HVx.out.ext (hE.ext hA))
    have HBy := hid (Blk.new w6 TVAL #[U8 x.kind, .int .i64 x.n, .string x.s, .slice Ay1 x.l.length cy1, .slice Ay2 x.o.length cy2])
    have HVy := hid (show VAt (w6.alloc (.cells #[U8 x.kind, .int .i64 x.n, .string x.s, .slice Ay1 x.l.length cy1, .slice Ay2 x.o.length cy2] TVAL)) (fun _ => True) (.agg #[U8 x.kind, .int .i64 x.n, .string x.s, .slice Ay1 x.l.length cy1, .slice Ay2 x.o.length cy2]) x from VAt.ext (VAt.more ⟨_, _, rfl, hlx, hox⟩ fun _ _ _ => trivial) hA)
    clear hA
    clear hlx hox hE
    clear qx0 qx1 qx2 qx3 qx4
    have HBG := hid (show VStr BigR x from HSx.out.2 BigR HSTR.out)
    have h1 : (x.snd == x.snd) = true := by simp
    have h2 : (wrap64 x.weight == wrap64 x.weight) = true := by simp
    have h3 : ((x.deep : Int) == x.deep) = true := by simp
    obtain ⟨qx0, qx1, qx2, qx3, qx4⟩ := blk5 HBx.out
    obtain ⟨qy0, qy1, qy2, qy3, qy4⟩ := blk5 HBy.out
    go_wp2_with fail
    generalize w6.alloc (.cells #[U8 x.kind, .int .i64 x.n, .string x.s, .slice Ay1 x.l.length cy1, .slice Ay2 x.o.length cy2] TVAL) = w7 at *
    refine wp_region_grow (specOf [(1, fun v _ => v = .bool x.snd), (3, fun v _ => v = .bool x.snd), (7, fun v _ => v = .int .i64 (wrap64 x.weight)), (9, fun v _ => v = .int .i64 (wrap64 x.weight)), (14, fun v _ => v = .int .i64 x.deep), (16, fun v _ => v = .int .i64 x.deep), (22, fun v _ => v = .bool true)]) (fun w' => Ext w7 w') (stable_cons (fun v w w' h he => h) (stable_cons (fun v w w' h he => h) (stable_cons (fun v w w' h he => h) (stable_cons (fun v w w' h he => h) (stable_cons (fun v w w' h he => h) (stable_cons (fun v w w' h he => h) (stable_cons (fun v w w' h he => h) stable_nil))))))) (stableC_ext _) (by kernel_rfl) (by kernel_rfl) (Keep.drew (Keep.refl _ _)) ?_
    iterate 1
      (try simp only [Act.put, List.setIfInBounds_toArray, List.set_cons_zero, List.set_cons_succ])
      refine grow_run rfl rfl rfl ?_
      apply Exists.intro
      refine ⟨fun w' hC hK => ?_, ?_⟩
      · have qx0 := (hC.cell (lt_of_cell qx0) id).trans qx0
        have qx1 := (hC.cell (lt_of_cell qx1) id).trans qx1
        have qx2 := (hC.cell (lt_of_cell qx2) id).trans qx2
        have qx3 := (hC.cell (lt_of_cell qx3) id).trans qx3
        have qx4 := (hC.cell (lt_of_cell qx4) id).trans qx4
        have qy0 := (hC.cell (lt_of_cell qy0) id).trans qy0
        have qy1 := (hC.cell (lt_of_cell qy1) id).trans qy1
        have qy2 := (hC.cell (lt_of_cell qy2) id).trans qy2
        have qy3 := (hC.cell (lt_of_cell qy3) id).trans qy3
        have qy4 := (hC.cell (lt_of_cell qy4) id).trans qy4
        go_simp
        rfl
    (try simp only [Act.put, List.setIfInBounds_toArray, List.set_cons_zero, List.set_cons_succ])
    refine grow_eff rfl rfl rfl (fun w' hC hK => ?_) (fun v1 hv1 => ?_)
    · unfold growAt
      go_simp
      refine grow_call ((sound_any w HVA.out _ x (Nat.le_refl _) HBG.out _ _ _ (HEW.out.ext hC) (VAt.ext HVx.out hC)).mono ?_)
      rintro e w'' ⟨rfl, h1⟩
      exact ⟨_, rfl, h1, rfl⟩
    obtain ⟨_, _, rfl⟩ := hv1.head
    iterate 1
      (try simp only [Act.put, List.setIfInBounds_toArray, List.set_cons_zero, List.set_cons_succ])
      refine grow_run rfl rfl rfl ?_
      apply Exists.intro
      refine ⟨fun w' hC hK => ?_, ?_⟩
      · have qx0 := (hC.cell (lt_of_cell qx0) id).trans qx0
        have qx1 := (hC.cell (lt_of_cell qx1) id).trans qx1
        have qx2 := (hC.cell (lt_of_cell qx2) id).trans qx2
        have qx3 := (hC.cell (lt_of_cell qx3) id).trans qx3
        have qx4 := (hC.cell (lt_of_cell qx4) id).trans qx4
        have qy0 := (hC.cell (lt_of_cell qy0) id).trans qy0
        have qy1 := (hC.cell (lt_of_cell qy1) id).trans qy1
        have qy2 := (hC.cell (lt_of_cell qy2) id).trans qy2
        have qy3 := (hC.cell (lt_of_cell qy3) id).trans qy3
        have qy4 := (hC.cell (lt_of_cell qy4) id).trans qy4
        go_simp
        rfl
    (try simp only [Act.put, List.setIfInBounds_toArray, List.set_cons_zero, List.set_cons_succ])
    refine grow_eff rfl rfl rfl (fun w' hC hK => ?_) (fun v3 hv3 => ?_)
    · unfold growAt
      go_simp
      refine grow_call ((rsound_any w HVA.out _ x (Nat.le_refl _) HBG.out _ _ _ (HEW.out.ext hC) (VAt.ext HVy.out hC)).mono ?_)
      rintro e w'' ⟨rfl, h1⟩
      exact ⟨_, rfl, h1, rfl⟩
    obtain ⟨_, _, rfl⟩ := hv3.head
    iterate 3
      (try simp only [Act.put, List.setIfInBounds_toArray, List.set_cons_zero, List.set_cons_succ])
      refine grow_run rfl rfl rfl ?_
      apply Exists.intro
      refine ⟨fun w' hC hK => ?_, ?_⟩
      · have qx0 := (hC.cell (lt_of_cell qx0) id).trans qx0
        have qx1 := (hC.cell (lt_of_cell qx1) id).trans qx1
        have qx2 := (hC.cell (lt_of_cell qx2) id).trans qx2
        have qx3 := (hC.cell (lt_of_cell qx3) id).trans qx3
        have qx4 := (hC.cell (lt_of_cell qx4) id).trans qx4
        have qy0 := (hC.cell (lt_of_cell qy0) id).trans qy0
        have qy1 := (hC.cell (lt_of_cell qy1) id).trans qy1
        have qy2 := (hC.cell (lt_of_cell qy2) id).trans qy2
        have qy3 := (hC.cell (lt_of_cell qy3) id).trans qy3
        have qy4 := (hC.cell (lt_of_cell qy4) id).trans qy4
        go_simp
        rfl
    (try simp only [Act.put, List.setIfInBounds_toArray, List.set_cons_zero, List.set_cons_succ])
    refine grow_eff rfl rfl rfl (fun w' hC hK => ?_) (fun v7 hv7 => ?_)
    · unfold growAt
      go_simp
      refine grow_call ((weight_any _ x (Nat.le_refl _) _ _ _ (VAt.ext HVx.out hC)).mono ?_)
      rintro e w'' ⟨rfl, h1⟩
      exact ⟨_, rfl, h1, rfl⟩
    obtain ⟨_, _, rfl⟩ := hv7.head
    iterate 1
      (try simp only [Act.put, List.setIfInBounds_toArray, List.set_cons_zero, List.set_cons_succ])
      refine grow_run rfl rfl rfl ?_
      apply Exists.intro
      refine ⟨fun w' hC hK => ?_, ?_⟩
      · have qx0 := (hC.cell (lt_of_cell qx0) id).trans qx0
        have qx1 := (hC.cell (lt_of_cell qx1) id).trans qx1
        have qx2 := (hC.cell (lt_of_cell qx2) id).trans qx2
        have qx3 := (hC.cell (lt_of_cell qx3) id).trans qx3
        have qx4 := (hC.cell (lt_of_cell qx4) id).trans qx4
        have qy0 := (hC.cell (lt_of_cell qy0) id).trans qy0
        have qy1 := (hC.cell (lt_of_cell qy1) id).trans qy1
        have qy2 := (hC.cell (lt_of_cell qy2) id).trans qy2
        have qy3 := (hC.cell (lt_of_cell qy3) id).trans qy3
        have qy4 := (hC.cell (lt_of_cell qy4) id).trans qy4
        go_simp
        rfl
    (try simp only [Act.put, List.setIfInBounds_toArray, List.set_cons_zero, List.set_cons_succ])
    refine grow_eff rfl rfl rfl (fun w' hC hK => ?_) (fun v9 hv9 => ?_)
    · unfold growAt
      go_simp
      refine grow_call ((rweight_any _ x (Nat.le_refl _) _ _ _ (VAt.ext HVy.out hC)).mono ?_)
      rintro e w'' ⟨rfl, h1⟩
      exact ⟨_, rfl, h1, rfl⟩
    obtain ⟨_, _, rfl⟩ := hv9.head
    iterate 4
      (try simp only [Act.put, List.setIfInBounds_toArray, List.set_cons_zero, List.set_cons_succ])
      refine grow_run rfl rfl rfl ?_
      apply Exists.intro
      refine ⟨fun w' hC hK => ?_, ?_⟩
      · have qx0 := (hC.cell (lt_of_cell qx0) id).trans qx0
        have qx1 := (hC.cell (lt_of_cell qx1) id).trans qx1
        have qx2 := (hC.cell (lt_of_cell qx2) id).trans qx2
        have qx3 := (hC.cell (lt_of_cell qx3) id).trans qx3
        have qx4 := (hC.cell (lt_of_cell qx4) id).trans qx4
        have qy0 := (hC.cell (lt_of_cell qy0) id).trans qy0
        have qy1 := (hC.cell (lt_of_cell qy1) id).trans qy1
        have qy2 := (hC.cell (lt_of_cell qy2) id).trans qy2
        have qy3 := (hC.cell (lt_of_cell qy3) id).trans qy3
        have qy4 := (hC.cell (lt_of_cell qy4) id).trans qy4
        go_simp
        rfl
    (try simp only [Act.put, List.setIfInBounds_toArray, List.set_cons_zero, List.set_cons_succ])
    refine grow_eff rfl rfl rfl (fun w' hC hK => ?_) (fun v14 hv14 => ?_)
    · unfold growAt
      go_simp
      refine grow_call ((deep_any _ x (Nat.le_refl _) (by have := HSx.out.1; omega) _ _ _ (VAt.ext HVx.out hC)).mono ?_)
      rintro e w'' ⟨rfl, h1⟩
      exact ⟨_, rfl, h1, rfl⟩
    obtain ⟨_, _, rfl⟩ := hv14.head
    iterate 1
      (try simp only [Act.put, List.setIfInBounds_toArray, List.set_cons_zero, List.set_cons_succ])
      refine grow_run rfl rfl rfl ?_
      apply Exists.intro
      refine ⟨fun w' hC hK => ?_, ?_⟩
      · have qx0 := (hC.cell (lt_of_cell qx0) id).trans qx0
        have qx1 := (hC.cell (lt_of_cell qx1) id).trans qx1
        have qx2 := (hC.cell (lt_of_cell qx2) id).trans qx2
        have qx3 := (hC.cell (lt_of_cell qx3) id).trans qx3
        have qx4 := (hC.cell (lt_of_cell qx4) id).trans qx4
        have qy0 := (hC.cell (lt_of_cell qy0) id).trans qy0
        have qy1 := (hC.cell (lt_of_cell qy1) id).trans qy1
        have qy2 := (hC.cell (lt_of_cell qy2) id).trans qy2
        have qy3 := (hC.cell (lt_of_cell qy3) id).trans qy3
        have qy4 := (hC.cell (lt_of_cell qy4) id).trans qy4
        go_simp
        rfl
    (try simp only [Act.put, List.setIfInBounds_toArray, List.set_cons_zero, List.set_cons_succ])
    refine grow_eff rfl rfl rfl (fun w' hC hK => ?_) (fun v16 hv16 => ?_)
    · unfold growAt
      go_simp
      refine grow_call ((rdeep_any _ x (Nat.le_refl _) (by have := HSx.out.1; omega) _ _ _ (VAt.ext HVy.out hC)).mono ?_)
      rintro e w'' ⟨rfl, h1⟩
      exact ⟨_, rfl, h1, rfl⟩
    obtain ⟨_, _, rfl⟩ := hv16.head
    iterate 5
      (try simp only [Act.put, List.setIfInBounds_toArray, List.set_cons_zero, List.set_cons_succ])
      refine grow_run rfl rfl rfl ?_
      apply Exists.intro
      refine ⟨fun w' hC hK => ?_, ?_⟩
      · have qx0 := (hC.cell (lt_of_cell qx0) id).trans qx0
        have qx1 := (hC.cell (lt_of_cell qx1) id).trans qx1
        have qx2 := (hC.cell (lt_of_cell qx2) id).trans qx2
        have qx3 := (hC.cell (lt_of_cell qx3) id).trans qx3
        have qx4 := (hC.cell (lt_of_cell qx4) id).trans qx4
        have qy0 := (hC.cell (lt_of_cell qy0) id).trans qy0
        have qy1 := (hC.cell (lt_of_cell qy1) id).trans qy1
        have qy2 := (hC.cell (lt_of_cell qy2) id).trans qy2
        have qy3 := (hC.cell (lt_of_cell qy3) id).trans qy3
        have qy4 := (hC.cell (lt_of_cell qy4) id).trans qy4
        go_simp
        rfl
    (try simp only [Act.put, List.setIfInBounds_toArray, List.set_cons_zero, List.set_cons_succ])
    refine grow_eff rfl rfl rfl (fun w' hC hK => ?_) (fun v22 hv22 => ?_)
    · unfold growAt
      go_simp
      refine grow_call ((same_eq _ x (Nat.le_refl _) _ _ _ _ _ (VAt.ext HVx.out hC) (VAt.ext HVy.out hC)).mono ?_)
      rintro e w'' ⟨rfl, h1⟩
      exact ⟨_, rfl, h1, rfl⟩
    obtain ⟨_, _, rfl⟩ := hv22.head
    iterate 2
      (try simp only [Act.put, List.setIfInBounds_toArray, List.set_cons_zero, List.set_cons_succ])
      refine grow_run rfl rfl rfl ?_
      apply Exists.intro
      refine ⟨fun w' hC hK => ?_, ?_⟩
      · have qx0 := (hC.cell (lt_of_cell qx0) id).trans qx0
        have qx1 := (hC.cell (lt_of_cell qx1) id).trans qx1
        have qx2 := (hC.cell (lt_of_cell qx2) id).trans qx2
        have qx3 := (hC.cell (lt_of_cell qx3) id).trans qx3
        have qx4 := (hC.cell (lt_of_cell qx4) id).trans qx4
        have qy0 := (hC.cell (lt_of_cell qy0) id).trans qy0
        have qy1 := (hC.cell (lt_of_cell qy1) id).trans qy1
        have qy2 := (hC.cell (lt_of_cell qy2) id).trans qy2
        have qy3 := (hC.cell (lt_of_cell qy3) id).trans qy3
        have qy4 := (hC.cell (lt_of_cell qy4) id).trans qy4
        go_simp
        rfl
    refine grow_nil fun wz hC _ => ?_
    have hC : Ext w7 wz := hC
    replace HL := hid (HL.out.ext ETok.ok hC)
    replace HEW := hid (HEW.out.ext hC)
    replace HBx := hid (HBx.out.keep hC id)
    replace HVx := hid (HVx.out.ext hC)
    replace HBy := hid (HBy.out.keep hC id)
    replace HVy := hid (HVy.out.ext hC)
    clear hC qx0 qx1 qx2 qx3 qx4 qy0 qy1 qy2 qy3 qy4
    go_wp2
    go_ret
    exact ⟨by first | rfl | simp, HEW.out⟩
theorem sounds_lift {Q0 : Prop} (lv : Value) (ts : List Tk) (w : World) (h0 : Sl ETok w (fun k => k < w.heap.size) lv ts) (q0 : Q0 ∧ ∀ t ∈ ts, t.s.size ≤ reachBytes) (hv : ValAny w) :
    Calls Tryd.prog 3 #[lv] w fun e w' => e = .returned (.bool true) ∧ Below w.heap.size w w' :=
  (sounds_walk lv ts  w (h0.more ETok.ok fun _ _ _ => trivial) (fun t ht => by have := q0.2 t ht; unfold reachBytes at this; unfold BigR; omega) hv).mono fun e w' h => ⟨h.1, h.2.toBelow⟩
end Go.Proofs.YtaemmabaekjkeaaDoor
