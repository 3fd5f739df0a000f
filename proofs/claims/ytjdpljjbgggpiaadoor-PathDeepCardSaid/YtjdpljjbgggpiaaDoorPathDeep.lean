/- What is put further in is put into what stands on the way: the walk. -/
import Derived.Test.YtjdpljjbgggpiaaDoorPathAid
import Derived.Test.YtjdpljjbgggpiaaDoorPathS
import Derived.Test.YtjdpljjbgggpiaaDoorLawAid0
set_option linter.unusedSimpArgs false
set_option linter.unusedVariables false
namespace Go.Proofs.YtjdpljjbgggpiaaDoor
open Go.RowKit
set_option linter.unusedVariables false
theorem tmod_nat (a n : Nat) (h : 0 < n) : ∃ m : Nat, m < n ∧ (a : Int).tmod (n : Int) = m := ⟨a % n, Nat.mod_lt _ h, by rw [Int.ofNat_tmod]⟩
/-- What stands on the way. -/
theorem deep_law {x m : V} {p : List St} (n : Nat) (hx : x.size ≤ 241) (hm : m.size ≤ 241) (hw : ∃ y, getV x p = some y) : ∃ y1 y2 y3 y5 : V, getV x (p.take n) = some y1 ∧ putV y1 (p.drop n) m = some y2 ∧ putV x (p.take n) y2 = some y3 ∧ putV x p m = some y3 ∧ getV y1 (p.drop n) = some y5 ∧ getV x p = some y5 ∧ y1.size ≤ 1000 ∧ y2.size ≤ 1000 := by
  obtain ⟨y5, h5⟩ := hw
  have ha := getV_append (p.take n) (p.drop n) x
  rw [List.take_append_drop, h5] at ha
  cases h1 : getV x (p.take n) with
  | none => rw [h1] at ha; cases ha
  | some y1 =>
    rw [h1, Option.bind_some] at ha
    have hs1 : y1.size ≤ x.size := getV_size _ _ _ h1
    obtain ⟨y2, h2⟩ : ∃ z, putV y1 (p.drop n) m = some z := Option.isSome_iff_exists.1 (by rw [← putV_some, ← ha]; rfl)
    have hs2 := putV_size _ _ _ _ h2
    obtain ⟨y3, h3⟩ : ∃ z, putV x (p.take n) y2 = some z := Option.isSome_iff_exists.1 (by rw [← putV_some, h1]; rfl)
    have hb := putV_append (p.take n) (p.drop n) x m
    rw [List.take_append_drop, h1, Option.bind_some, h2, Option.bind_some, h3] at hb
    exact ⟨y1, y2, y3, y5, rfl, h2, h3, hb, ha.symm, h5, by omega, by omega⟩
set_option maxHeartbeats 12800000 in
theorem deep_walk (lv cv mv : Value) (k : Int) (hk : (Lit.int .i64 k).wf = true) (ts : List Tk) (cl : List UInt8) (ms : List Tk) (w : World) (hl : Sl ETok w (fun _ => True) lv ts) (hc : BytesS w (fun _ => True) cv cl) (hm : Sl ETok w (fun _ => True) mv ms) :
    Calls Tryd.prog 4 #[lv, cv, .int .i64 k, mv] w fun e w' => e = .returned (.bool true) ∧ Ext w w' := by
  obtain ⟨A, c, rfl, _, _⟩ := hl.shape
  obtain ⟨Ac, cc, rfl, _, _⟩ := hc.shape
  obtain ⟨Am, cm, rfl, _, _⟩ := hm.shape
  have HL := hid hl
  have HC := hid hc
  have HM := hid hm
  clear hl hc hm
  obtain ⟨i0, hmax, hi0⟩ := run_max0 k hk
  unfold maxLen at hi0
  clear hk
  go_enter Tryd.func4, Tryd.ntmps4
  have hend : ∀ wx, Ext w wx → Calls Tryd.prog 11 #[] wx fun e w' => e = .returned (.bool true) ∧ Ext w w' := fun wx h => (known3_ok wx).mono fun e w' h2 => ⟨h2.1, h.ext h2.2⟩
  have HEND := hid hend
  clear hend
  have HEW := hid (Keep.refl (fun _ => False) w)
  go_wp2_with fail
  refine (heavy_ok _ _ _ _ _ _ [] HL.out (Sl.nil _ (fun _ => True))).mono ?_
  rintro e w1 ⟨bw1, rfl, hb, hE⟩
  
  clear hb
  replace HL := hid (HL.out.ext ETok.ok hE)
  replace HM := hid (HM.out.ext ETok.ok hE)
  replace HC := hid (HC.out.ext EU8.ok hE)
  replace HEW := hid (HEW.out.ext hE)
  clear hE
  cases bw1 with
  | true =>
    go_wp2_with fail
    refine (HEND.out _ HEW.out).mono ?_
    rintro e w2 ⟨rfl, hz⟩
    have HZ := hid hz
    clear hz
    go_wp2
    go_ret
    exact ⟨rfl, HZ.out⟩
  | false =>
    go_wp2_with fail
    refine (heavy_ok _ _ _ _ _ _ [] HM.out (Sl.nil _ (fun _ => True))).mono ?_
    rintro e w3 ⟨bw3, rfl, hb, hE⟩
    
    clear hb
    replace HL := hid (HL.out.ext ETok.ok hE)
    replace HM := hid (HM.out.ext ETok.ok hE)
    replace HC := hid (HC.out.ext EU8.ok hE)
    replace HEW := hid (HEW.out.ext hE)
    clear hE
    cases bw3 with
    | true =>
      go_wp2_with fail
      refine (HEND.out _ HEW.out).mono ?_
      rintro e w4 ⟨rfl, hz⟩
      have HZ := hid hz
      clear hz
      go_wp2
      go_ret
      exact ⟨rfl, HZ.out⟩
    | false =>
      by_cases hlcl : 20 < cl.length
      · have hlXcl : (20 : Int) < cl.length := by omega
        go_wp2_with fail
        refine (HEND.out _ HEW.out).mono ?_
        rintro e w5 ⟨rfl, hz⟩
        have HZ := hid hz
        clear hz
        go_wp2
        go_ret
        exact ⟨rfl, HZ.out⟩
      · have hlXcl : ¬ (20 : Int) < cl.length := by omega
        go_wp2_with fail
        refine (known3_ok _).mono ?_
        rintro e w6 ⟨rfl, hE⟩
        replace HL := hid (HL.out.ext ETok.ok hE)
        replace HM := hid (HM.out.ext ETok.ok hE)
        replace HC := hid (HC.out.ext EU8.ok hE)
        replace HEW := hid (HEW.out.ext hE)
        clear hE HEND
        go_wp2_with fail
        refine (build_ok _ _ _ _ HL.out).mono ?_
        rintro e w7 ⟨u, x, rfl, hsv, hsz, ⟨lx, ox, rfl, hlx, hox⟩, hE⟩
        obtain ⟨Ax1, cx1, rfl, _⟩ := hlx.shape
        obtain ⟨Ax2, cx2, rfl, _⟩ := hox.shape
        have HSx := hid (And.intro hsv hsz)
        clear hsv hsz
        have hA : Ext w7 (w7.alloc (.cells #[U8 x.kind, .int .i64 x.n, .string x.s, .slice Ax1 x.l.length cx1, .slice Ax2 x.o.length cx2] TVAL)) := (Keep.refl _ _).alloc _
        replace HL := hid (HL.out.ext ETok.ok (hE.ext hA))
        replace HM := hid (HM.out.ext ETok.ok (hE.ext hA))
        replace HC := hid (HC.out.ext EU8.ok (hE.ext hA))
        replace HEW := hid (HEW.out.ext (hE.ext hA))
        have HBx := hid (Blk.new w7 TVAL #[U8 x.kind, .int .i64 x.n, .string x.s, .slice Ax1 x.l.length cx1, .slice Ax2 x.o.length cx2])
        have HVx := hid (show VAt (w7.alloc (.cells #[U8 x.kind, .int .i64 x.n, .string x.s, .slice Ax1 x.l.length cx1, .slice Ax2 x.o.length cx2] TVAL)) (fun _ => True) (.agg #[U8 x.kind, .int .i64 x.n, .string x.s, .slice Ax1 x.l.length cx1, .slice Ax2 x.o.length cx2]) x from VAt.ext (VAt.more ⟨_, _, rfl, hlx, hox⟩ fun _ _ _ => trivial) hA)
        clear hA
        clear hlx hox hE
        go_wp2_with fail
        generalize w7.alloc (.cells #[U8 x.kind, .int .i64 x.n, .string x.s, .slice Ax1 x.l.length cx1, .slice Ax2 x.o.length cx2] TVAL) = w8 at *
        refine (build_ok _ _ _ _ HM.out).mono ?_
        rintro e w9 ⟨u, m, rfl, hsv, hsz, ⟨lx, ox, rfl, hlx, hox⟩, hE⟩
        obtain ⟨Am1, cm1, rfl, _⟩ := hlx.shape
        obtain ⟨Am2, cm2, rfl, _⟩ := hox.shape
        have HSm := hid (And.intro hsv hsz)
        clear hsv hsz
        have hA : Ext w9 (w9.alloc (.cells #[U8 m.kind, .int .i64 m.n, .string m.s, .slice Am1 m.l.length cm1, .slice Am2 m.o.length cm2] TVAL)) := (Keep.refl _ _).alloc _
        replace HL := hid (HL.out.ext ETok.ok (hE.ext hA))
        replace HM := hid (HM.out.ext ETok.ok (hE.ext hA))
        replace HC := hid (HC.out.ext EU8.ok (hE.ext hA))
        replace HEW := hid (HEW.out.ext (hE.ext hA))
        replace HBx := hid (HBx.out.keep (hE.ext hA) id)
        replace HVx := hid (HVx.out.ext (hE.ext hA))
        have HBm := hid (Blk.new w9 TVAL #[U8 m.kind, .int .i64 m.n, .string m.s, .slice Am1 m.l.length cm1, .slice Am2 m.o.length cm2])
        have HVm := hid (show VAt (w9.alloc (.cells #[U8 m.kind, .int .i64 m.n, .string m.s, .slice Am1 m.l.length cm1, .slice Am2 m.o.length cm2] TVAL)) (fun _ => True) (.agg #[U8 m.kind, .int .i64 m.n, .string m.s, .slice Am1 m.l.length cm1, .slice Am2 m.o.length cm2]) m from VAt.ext (VAt.more ⟨_, _, rfl, hlx, hox⟩ fun _ _ _ => trivial) hA)
        clear hA
        clear hlx hox hE
        obtain ⟨qx0, qx1, qx2, qx3, qx4⟩ := blk5 HBx.out
        go_wp2_with fail
        generalize w9.alloc (.cells #[U8 m.kind, .int .i64 m.n, .string m.s, .slice Am1 m.l.length cm1, .slice Am2 m.o.length cm2] TVAL) = w10 at *
        refine (walk_ok x _ _ cl _ _ _ HVx.out HSx.out.1 (by have := HSx.out.2; omega) HC.out).mono ?_
        rintro e w11 ⟨u, p, rfl, hp, hwk, hE⟩
        obtain ⟨Ap, cp, rfl, hpl, hpm⟩ := hp.shape
        have HPp := hid ((hp.sl ESt.ok).more ESt.ok (S' := fun _ => True) fun _ _ _ => trivial)
        have HWp := hid hwk
        clear hp hwk
        replace HL := hid (HL.out.ext ETok.ok hE)
        replace HM := hid (HM.out.ext ETok.ok hE)
        replace HC := hid (HC.out.ext EU8.ok hE)
        replace HEW := hid (HEW.out.ext hE)
        replace HBx := hid (HBx.out.keep hE id)
        replace HVx := hid (HVx.out.ext hE)
        replace HBm := hid (HBm.out.keep hE id)
        replace HVm := hid (HVm.out.ext hE)
        clear hE
        clear qx0 qx1 qx2 qx3 qx4
        obtain ⟨n, hn, hnt⟩ := tmod_nat i0 (p.length + 1) (by omega)
        have hnt : (i0 : Int).tmod ((p.length : Int) + 1) = n := by rw [← hnt]; congr 1
        have hnz : (p.length : Int) + 1 ≠ 0 := by omega
        have hcap : p.length ≤ 8 := HWp.out.len
        obtain ⟨y1, y2, y3, y5, h1, h2, h3, h4, h5, h6, hs1, hs2⟩ := deep_law n HSx.out.2 HSm.out.2 HWp.out.get
        have H1 := hid h1
        have H2 := hid h2
        have H3 := hid h3
        have H4 := hid h4
        have H5 := hid h5
        have H6 := hid h6
        have HZ := hid (And.intro hs1 hs2)
        clear h1 h2 h3 h4 h5 h6 hs1 hs2
        obtain ⟨rf, f1⟩ := front_fact (P := Tryd.prog) ESt.ok ty_st HPp.out (b := (n : Int)) rfl (by omega)
        obtain ⟨At, rt, t1⟩ := tail_fact (P := Tryd.prog) ESt.ok ty_st HPp.out (a := (n : Int)) rfl (by omega)
        have HFR := hid f1
        have HTL := hid t1
        clear f1 t1
        obtain ⟨qx0, qx1, qx2, qx3, qx4⟩ := blk5 HBx.out
        go_wp2_with fail
        refine H.wp_region_free 7 [1, 2, 3] [0, 4, 5, 6, 7, 8] [9] [10]
          (H.specOf [(4, OutV y1), (8, BoxQ w11.heap.size)])
          (fun w' => Ext w11 w') ?_ (H.stableC_ext _) (by kernel_rfl) rfl (by kernel_rfl) (Keep.drew (Keep.refl _ _)) ?_
        · exact H.stable_cons (fun n m v w w' h he => h.ext he) (H.stable_cons (fun n m v w w' h he => h.ext he) H.stable_nil)
        iterate 3
          (try simp only [Act.put, List.setIfInBounds_toArray, List.set_cons_zero, List.set_cons_succ])
          refine H.pure_run rfl rfl ?_
          apply Exists.intro
          refine ⟨fun w' => ?_, ?_⟩
          · go_simp
            rfl
        refine H.pure_nil ?_
        iterate 1
          (try simp only [Act.put, List.setIfInBounds_toArray, List.set_cons_zero, List.set_cons_succ])
          refine H.growP_run rfl rfl rfl ?_
          apply Exists.intro
          refine ⟨fun w' hC hK => ?_, ?_⟩
          · have qx0 := (hC.cell (lt_of_cell qx0) id).trans qx0
            have qx1 := (hC.cell (lt_of_cell qx1) id).trans qx1
            have qx2 := (hC.cell (lt_of_cell qx2) id).trans qx2
            have qx3 := (hC.cell (lt_of_cell qx3) id).trans qx3
            have qx4 := (hC.cell (lt_of_cell qx4) id).trans qx4
            go_simp
            rfl
        (try simp only [Act.put, List.setIfInBounds_toArray, List.set_cons_zero, List.set_cons_succ])
        refine H.growP_eff rfl rfl rfl (fun w' hC hK => ?_) (fun v4 nv4 mv4 hv4 => ?_)
        · have hcall := (path_get w' _ _ x (p.take n) _ _ (HVx.out.ext hC) (HFR.out.ext ESt.ok hC) (by have := HSx.out.2; omega)).mono fun e w'' h => get_out H1.out h
          unfold H.growAt
          go_simp
          exact H.grow_call hcall
        obtain ⟨_, _, hr⟩ := hv4.head
        obtain ⟨Ai1, ci1, Ai2, ci2, rfl⟩ := hr.head
        iterate 3
          (try simp only [Act.put, List.setIfInBounds_toArray, List.set_cons_zero, List.set_cons_succ])
          refine H.growP_run rfl rfl rfl ?_
          apply Exists.intro
          refine ⟨fun w' hC hK => ?_, ?_⟩
          · go_simp
            rfl
        (try simp only [Act.put, List.setIfInBounds_toArray, List.set_cons_zero, List.set_cons_succ])
        refine H.growP_eff rfl rfl rfl (fun w' hC hK => ?_) (fun v8 nv8 mv8 hv8 => ?_)
        · unfold H.growAt
          go_simp
          exact ⟨(Keep.refl _ _).alloc _, hC.size, rfl, by simp, Blk.new _ _ _⟩
        obtain ⟨_, _, hn, rfl, hnm, _⟩ := hv8.head
        refine H.growP_nil fun w7 hC hK => ?_
        have hbox : BoxQ w11.heap.size nv8 mv8 (.pointer (some ⟨nv8, 0, none⟩)) w7 := (hK.1 (8, _) List.mem_cons_self).1
        have hout : OutV y1 nv4 mv4 (.tuple #[.agg #[U8 y1.kind, .int .i64 y1.n, .string y1.s, .slice Ai1 y1.l.length ci1, .slice Ai2 y1.o.length ci2], .int .u16 0]) w7 := (hK.1 (4, _) (List.mem_cons_of_mem _ List.mem_cons_self)).1
        have hap : mv8 ≤ nv4 ∨ mv4 ≤ nv8 := hK.2 (8, _) List.mem_cons_self (4, _) (List.mem_cons_of_mem _ List.mem_cons_self) (by simp)
        obtain ⟨bq0, bq1, bq2, bq3, bq4⟩ := blk5 hbox.2.2.2
        have bf0 := hbox.2.2.2.frozen 0
        have bf1 := hbox.2.2.2.frozen 1
        have bf2 := hbox.2.2.2.frozen 2
        have bf3 := hbox.2.2.2.frozen 3
        have bf4 := hbox.2.2.2.frozen 4
        have HF := hid (OutV.fill hC hbox hout hap)
        clear hbox hout hap hK hn hnm hr qx0 qx1 qx2 qx3 qx4 hv4 hv8 hC
        change wpList _ _ _ (_ :: []) _ _
        (try simp only [Act.put, List.setIfInBounds_toArray, List.set_cons_zero, List.set_cons_succ])
        go_wp2_with fail
        refine H.Then.normal ?_
        iterate 1
          (try simp only [Act.put, List.setIfInBounds_toArray, List.set_cons_zero, List.set_cons_succ])
          refine H.pure_run rfl rfl ?_
          apply Exists.intro
          refine ⟨fun w' => ?_, ?_⟩
          · go_simp
            rfl
        refine H.pure_nil ?_
        refine NoPanic.normal ?_
        (try simp only [Act.put, List.setIfInBounds_toArray, List.set_cons_zero, List.set_cons_succ])
        obtain ⟨hE8, hB8, hV8⟩ := HF.out
        clear HF bq0 bq1 bq2 bq3 bq4 bf0 bf1 bf2 bf3 bf4
        change Exit.then _ _ Exit.normal _ (fillW w7 nv8 (U8 y1.kind) (.int .i64 y1.n) (.string y1.s) (.slice Ai1 y1.l.length ci1) (.slice Ai2 y1.o.length ci2))
        generalize fillW w7 nv8 (U8 y1.kind) (.int .i64 y1.n) (.string y1.s) (.slice Ai1 y1.l.length ci1) (.slice Ai2 y1.o.length ci2) = w12 at *
        replace HL := hid (HL.out.ext ETok.ok hE8)
        replace HM := hid (HM.out.ext ETok.ok hE8)
        replace HC := hid (HC.out.ext EU8.ok hE8)
        replace HEW := hid (HEW.out.ext hE8)
        replace HBx := hid (HBx.out.keep hE8 id)
        replace HVx := hid (HVx.out.ext hE8)
        replace HBm := hid (HBm.out.keep hE8 id)
        replace HVm := hid (HVm.out.ext hE8)
        replace HPp := hid (HPp.out.ext ESt.ok hE8)
        replace HFR := hid (HFR.out.ext ESt.ok hE8)
        replace HTL := hid (HTL.out.ext ESt.ok hE8)
        have HBi := hid hB8
        have HVi := hid hV8
        clear hE8 hB8 hV8
        obtain ⟨qi0, qi1, qi2, qi3, qi4⟩ := blk5 HBi.out
        obtain ⟨qm0, qm1, qm2, qm3, qm4⟩ := blk5 HBm.out
        go_wp2_with fail
        refine H.wp_region_free 8 [1, 2, 3] [0, 4, 5, 6, 7, 8, 9] [10] [11]
          (H.specOf [(5, OutV y2), (9, BoxQ w12.heap.size)])
          (fun w' => Ext w12 w') ?_ (H.stableC_ext _) (by kernel_rfl) rfl (by kernel_rfl) (Keep.drew (Keep.refl _ _)) ?_
        · exact H.stable_cons (fun n m v w w' h he => h.ext he) (H.stable_cons (fun n m v w w' h he => h.ext he) H.stable_nil)
        iterate 3
          (try simp only [Act.put, List.setIfInBounds_toArray, List.set_cons_zero, List.set_cons_succ])
          refine H.pure_run rfl rfl ?_
          apply Exists.intro
          refine ⟨fun w' => ?_, ?_⟩
          · go_simp
            rfl
        refine H.pure_nil ?_
        iterate 2
          (try simp only [Act.put, List.setIfInBounds_toArray, List.set_cons_zero, List.set_cons_succ])
          refine H.growP_run rfl rfl rfl ?_
          apply Exists.intro
          refine ⟨fun w' hC hK => ?_, ?_⟩
          · have qi0 := (hC.cell (lt_of_cell qi0) id).trans qi0
            have qi1 := (hC.cell (lt_of_cell qi1) id).trans qi1
            have qi2 := (hC.cell (lt_of_cell qi2) id).trans qi2
            have qi3 := (hC.cell (lt_of_cell qi3) id).trans qi3
            have qi4 := (hC.cell (lt_of_cell qi4) id).trans qi4
            have qm0 := (hC.cell (lt_of_cell qm0) id).trans qm0
            have qm1 := (hC.cell (lt_of_cell qm1) id).trans qm1
            have qm2 := (hC.cell (lt_of_cell qm2) id).trans qm2
            have qm3 := (hC.cell (lt_of_cell qm3) id).trans qm3
            have qm4 := (hC.cell (lt_of_cell qm4) id).trans qm4
            go_simp
            rfl
        (try simp only [Act.put, List.setIfInBounds_toArray, List.set_cons_zero, List.set_cons_succ])
        refine H.growP_eff rfl rfl rfl (fun w' hC hK => ?_) (fun v5 nv5 mv5 hv5 => ?_)
        · have hcall := (path_put w' _ _ _ y1 m (p.drop n) _ _ _ (HVi.out.ext hC) (HVm.out.ext hC) (HTL.out.ext ESt.ok hC) (by have := HZ.out.1; omega) (by have := HSm.out.2; omega)).mono fun e w'' h => put_out H2.out h
          unfold H.growAt
          go_simp
          exact H.grow_call hcall
        obtain ⟨_, _, hr⟩ := hv5.head
        obtain ⟨Aj1, cj1, Aj2, cj2, rfl⟩ := hr.head
        iterate 3
          (try simp only [Act.put, List.setIfInBounds_toArray, List.set_cons_zero, List.set_cons_succ])
          refine H.growP_run rfl rfl rfl ?_
          apply Exists.intro
          refine ⟨fun w' hC hK => ?_, ?_⟩
          · go_simp
            rfl
        (try simp only [Act.put, List.setIfInBounds_toArray, List.set_cons_zero, List.set_cons_succ])
        refine H.growP_eff rfl rfl rfl (fun w' hC hK => ?_) (fun v9 nv9 mv9 hv9 => ?_)
        · unfold H.growAt
          go_simp
          exact ⟨(Keep.refl _ _).alloc _, hC.size, rfl, by simp, Blk.new _ _ _⟩
        obtain ⟨_, _, hn, rfl, hnm, _⟩ := hv9.head
        refine H.growP_nil fun w7 hC hK => ?_
        have hbox : BoxQ w12.heap.size nv9 mv9 (.pointer (some ⟨nv9, 0, none⟩)) w7 := (hK.1 (9, _) List.mem_cons_self).1
        have hout : OutV y2 nv5 mv5 (.tuple #[.agg #[U8 y2.kind, .int .i64 y2.n, .string y2.s, .slice Aj1 y2.l.length cj1, .slice Aj2 y2.o.length cj2], .int .u16 0]) w7 := (hK.1 (5, _) (List.mem_cons_of_mem _ List.mem_cons_self)).1
        have hap : mv9 ≤ nv5 ∨ mv5 ≤ nv9 := hK.2 (9, _) List.mem_cons_self (5, _) (List.mem_cons_of_mem _ List.mem_cons_self) (by simp)
        obtain ⟨bq0, bq1, bq2, bq3, bq4⟩ := blk5 hbox.2.2.2
        have bf0 := hbox.2.2.2.frozen 0
        have bf1 := hbox.2.2.2.frozen 1
        have bf2 := hbox.2.2.2.frozen 2
        have bf3 := hbox.2.2.2.frozen 3
        have bf4 := hbox.2.2.2.frozen 4
        have HF := hid (OutV.fill hC hbox hout hap)
        clear hbox hout hap hK hn hnm hr qi0 qi1 qi2 qi3 qi4 qm0 qm1 qm2 qm3 qm4 hv5 hv9 hC
        change wpList _ _ _ (_ :: []) _ _
        (try simp only [Act.put, List.setIfInBounds_toArray, List.set_cons_zero, List.set_cons_succ])
        go_wp2_with fail
        refine H.Then.normal ?_
        iterate 1
          (try simp only [Act.put, List.setIfInBounds_toArray, List.set_cons_zero, List.set_cons_succ])
          refine H.pure_run rfl rfl ?_
          apply Exists.intro
          refine ⟨fun w' => ?_, ?_⟩
          · go_simp
            rfl
        refine H.pure_nil ?_
        refine NoPanic.normal ?_
        (try simp only [Act.put, List.setIfInBounds_toArray, List.set_cons_zero, List.set_cons_succ])
        obtain ⟨hE8, hB8, hV8⟩ := HF.out
        clear HF bq0 bq1 bq2 bq3 bq4 bf0 bf1 bf2 bf3 bf4
        change Exit.then _ _ Exit.normal _ (fillW w7 nv9 (U8 y2.kind) (.int .i64 y2.n) (.string y2.s) (.slice Aj1 y2.l.length cj1) (.slice Aj2 y2.o.length cj2))
        generalize fillW w7 nv9 (U8 y2.kind) (.int .i64 y2.n) (.string y2.s) (.slice Aj1 y2.l.length cj1) (.slice Aj2 y2.o.length cj2) = w13 at *
        replace HL := hid (HL.out.ext ETok.ok hE8)
        replace HM := hid (HM.out.ext ETok.ok hE8)
        replace HC := hid (HC.out.ext EU8.ok hE8)
        replace HEW := hid (HEW.out.ext hE8)
        replace HBx := hid (HBx.out.keep hE8 id)
        replace HVx := hid (HVx.out.ext hE8)
        replace HBm := hid (HBm.out.keep hE8 id)
        replace HVm := hid (HVm.out.ext hE8)
        replace HPp := hid (HPp.out.ext ESt.ok hE8)
        replace HFR := hid (HFR.out.ext ESt.ok hE8)
        replace HTL := hid (HTL.out.ext ESt.ok hE8)
        replace HBi := hid (HBi.out.keep hE8 id)
        replace HVi := hid (HVi.out.ext hE8)
        have HBj := hid hB8
        have HVj := hid hV8
        clear hE8 hB8 hV8
        obtain ⟨qx0, qx1, qx2, qx3, qx4⟩ := blk5 HBx.out
        obtain ⟨qj0, qj1, qj2, qj3, qj4⟩ := blk5 HBj.out
        go_wp2_with fail
        refine H.wp_region_free 8 [1, 2, 3] [0, 4, 5, 6, 7, 8, 9] [10] [11]
          (H.specOf [(5, OutV y3), (9, BoxQ w13.heap.size)])
          (fun w' => Ext w13 w') ?_ (H.stableC_ext _) (by kernel_rfl) rfl (by kernel_rfl) (Keep.drew (Keep.refl _ _)) ?_
        · exact H.stable_cons (fun n m v w w' h he => h.ext he) (H.stable_cons (fun n m v w w' h he => h.ext he) H.stable_nil)
        iterate 3
          (try simp only [Act.put, List.setIfInBounds_toArray, List.set_cons_zero, List.set_cons_succ])
          refine H.pure_run rfl rfl ?_
          apply Exists.intro
          refine ⟨fun w' => ?_, ?_⟩
          · go_simp
            rfl
        refine H.pure_nil ?_
        iterate 2
          (try simp only [Act.put, List.setIfInBounds_toArray, List.set_cons_zero, List.set_cons_succ])
          refine H.growP_run rfl rfl rfl ?_
          apply Exists.intro
          refine ⟨fun w' hC hK => ?_, ?_⟩
          · have qx0 := (hC.cell (lt_of_cell qx0) id).trans qx0
            have qx1 := (hC.cell (lt_of_cell qx1) id).trans qx1
            have qx2 := (hC.cell (lt_of_cell qx2) id).trans qx2
            have qx3 := (hC.cell (lt_of_cell qx3) id).trans qx3
            have qx4 := (hC.cell (lt_of_cell qx4) id).trans qx4
            have qj0 := (hC.cell (lt_of_cell qj0) id).trans qj0
            have qj1 := (hC.cell (lt_of_cell qj1) id).trans qj1
            have qj2 := (hC.cell (lt_of_cell qj2) id).trans qj2
            have qj3 := (hC.cell (lt_of_cell qj3) id).trans qj3
            have qj4 := (hC.cell (lt_of_cell qj4) id).trans qj4
            go_simp
            rfl
        (try simp only [Act.put, List.setIfInBounds_toArray, List.set_cons_zero, List.set_cons_succ])
        refine H.growP_eff rfl rfl rfl (fun w' hC hK => ?_) (fun v5 nv5 mv5 hv5 => ?_)
        · have hcall := (path_put w' _ _ _ x y2 (p.take n) _ _ _ (HVx.out.ext hC) (HVj.out.ext hC) (HFR.out.ext ESt.ok hC) (by have := HSx.out.2; omega) (by have := HZ.out.2; omega)).mono fun e w'' h => put_out H3.out h
          unfold H.growAt
          go_simp
          exact H.grow_call hcall
        obtain ⟨_, _, hr⟩ := hv5.head
        obtain ⟨Aa1, ca1, Aa2, ca2, rfl⟩ := hr.head
        iterate 3
          (try simp only [Act.put, List.setIfInBounds_toArray, List.set_cons_zero, List.set_cons_succ])
          refine H.growP_run rfl rfl rfl ?_
          apply Exists.intro
          refine ⟨fun w' hC hK => ?_, ?_⟩
          · go_simp
            rfl
        (try simp only [Act.put, List.setIfInBounds_toArray, List.set_cons_zero, List.set_cons_succ])
        refine H.growP_eff rfl rfl rfl (fun w' hC hK => ?_) (fun v9 nv9 mv9 hv9 => ?_)
        · unfold H.growAt
          go_simp
          exact ⟨(Keep.refl _ _).alloc _, hC.size, rfl, by simp, Blk.new _ _ _⟩
        obtain ⟨_, _, hn, rfl, hnm, _⟩ := hv9.head
        refine H.growP_nil fun w7 hC hK => ?_
        have hbox : BoxQ w13.heap.size nv9 mv9 (.pointer (some ⟨nv9, 0, none⟩)) w7 := (hK.1 (9, _) List.mem_cons_self).1
        have hout : OutV y3 nv5 mv5 (.tuple #[.agg #[U8 y3.kind, .int .i64 y3.n, .string y3.s, .slice Aa1 y3.l.length ca1, .slice Aa2 y3.o.length ca2], .int .u16 0]) w7 := (hK.1 (5, _) (List.mem_cons_of_mem _ List.mem_cons_self)).1
        have hap : mv9 ≤ nv5 ∨ mv5 ≤ nv9 := hK.2 (9, _) List.mem_cons_self (5, _) (List.mem_cons_of_mem _ List.mem_cons_self) (by simp)
        obtain ⟨bq0, bq1, bq2, bq3, bq4⟩ := blk5 hbox.2.2.2
        have bf0 := hbox.2.2.2.frozen 0
        have bf1 := hbox.2.2.2.frozen 1
        have bf2 := hbox.2.2.2.frozen 2
        have bf3 := hbox.2.2.2.frozen 3
        have bf4 := hbox.2.2.2.frozen 4
        have HF := hid (OutV.fill hC hbox hout hap)
        clear hbox hout hap hK hn hnm hr qx0 qx1 qx2 qx3 qx4 qj0 qj1 qj2 qj3 qj4 hv5 hv9 hC
        change wpList _ _ _ (_ :: []) _ _
        (try simp only [Act.put, List.setIfInBounds_toArray, List.set_cons_zero, List.set_cons_succ])
        go_wp2_with fail
        refine H.Then.normal ?_
        iterate 1
          (try simp only [Act.put, List.setIfInBounds_toArray, List.set_cons_zero, List.set_cons_succ])
          refine H.pure_run rfl rfl ?_
          apply Exists.intro
          refine ⟨fun w' => ?_, ?_⟩
          · go_simp
            rfl
        refine H.pure_nil ?_
        refine NoPanic.normal ?_
        (try simp only [Act.put, List.setIfInBounds_toArray, List.set_cons_zero, List.set_cons_succ])
        obtain ⟨hE8, hB8, hV8⟩ := HF.out
        clear HF bq0 bq1 bq2 bq3 bq4 bf0 bf1 bf2 bf3 bf4
        change Exit.then _ _ Exit.normal _ (fillW w7 nv9 (U8 y3.kind) (.int .i64 y3.n) (.string y3.s) (.slice Aa1 y3.l.length ca1) (.slice Aa2 y3.o.length ca2))
        generalize fillW w7 nv9 (U8 y3.kind) (.int .i64 y3.n) (.string y3.s) (.slice Aa1 y3.l.length ca1) (.slice Aa2 y3.o.length ca2) = w14 at *
        replace HL := hid (HL.out.ext ETok.ok hE8)
        replace HM := hid (HM.out.ext ETok.ok hE8)
        replace HC := hid (HC.out.ext EU8.ok hE8)
        replace HEW := hid (HEW.out.ext hE8)
        replace HBx := hid (HBx.out.keep hE8 id)
        replace HVx := hid (HVx.out.ext hE8)
        replace HBm := hid (HBm.out.keep hE8 id)
        replace HVm := hid (HVm.out.ext hE8)
        replace HPp := hid (HPp.out.ext ESt.ok hE8)
        replace HFR := hid (HFR.out.ext ESt.ok hE8)
        replace HTL := hid (HTL.out.ext ESt.ok hE8)
        replace HBi := hid (HBi.out.keep hE8 id)
        replace HVi := hid (HVi.out.ext hE8)
        replace HBj := hid (HBj.out.keep hE8 id)
        replace HVj := hid (HVj.out.ext hE8)
        have HBa := hid hB8
        have HVa := hid hV8
        clear hE8 hB8 hV8
        obtain ⟨qx0, qx1, qx2, qx3, qx4⟩ := blk5 HBx.out
        obtain ⟨qm0, qm1, qm2, qm3, qm4⟩ := blk5 HBm.out
        go_wp2_with fail
        refine (path_put _ _ _ _ _ _ _ _ _ _ HVx.out HVm.out HPp.out (by have := HSx.out.2; omega) (by have := HSm.out.2; omega)).mono ?_
        rintro e w15 hg
        rw [H4.out] at hg
        obtain ⟨u, rfl, hva, hE⟩ := hg
        obtain ⟨ly, oy, rfl, hly, hoy⟩ := hva
        obtain ⟨Ab1, cb1, rfl, _⟩ := hly.shape
        obtain ⟨Ab2, cb2, rfl, _⟩ := hoy.shape
        have hA : Ext w15 (w15.alloc (.cells #[U8 y3.kind, .int .i64 y3.n, .string y3.s, .slice Ab1 y3.l.length cb1, .slice Ab2 y3.o.length cb2] TVAL)) := (Keep.refl _ _).alloc _
        replace HL := hid (HL.out.ext ETok.ok (hE.ext hA))
        replace HM := hid (HM.out.ext ETok.ok (hE.ext hA))
        replace HC := hid (HC.out.ext EU8.ok (hE.ext hA))
        replace HEW := hid (HEW.out.ext (hE.ext hA))
        replace HBx := hid (HBx.out.keep (hE.ext hA) id)
        replace HVx := hid (HVx.out.ext (hE.ext hA))
        replace HBm := hid (HBm.out.keep (hE.ext hA) id)
        replace HVm := hid (HVm.out.ext (hE.ext hA))
        replace HPp := hid (HPp.out.ext ESt.ok (hE.ext hA))
        replace HFR := hid (HFR.out.ext ESt.ok (hE.ext hA))
        replace HTL := hid (HTL.out.ext ESt.ok (hE.ext hA))
        replace HBi := hid (HBi.out.keep (hE.ext hA) id)
        replace HVi := hid (HVi.out.ext (hE.ext hA))
        replace HBj := hid (HBj.out.keep (hE.ext hA) id)
        replace HVj := hid (HVj.out.ext (hE.ext hA))
        replace HBa := hid (HBa.out.keep (hE.ext hA) id)
        replace HVa := hid (HVa.out.ext (hE.ext hA))
        have HBb := hid (Blk.new w15 TVAL #[U8 y3.kind, .int .i64 y3.n, .string y3.s, .slice Ab1 y3.l.length cb1, .slice Ab2 y3.o.length cb2])
        have HVb := hid (show VAt (w15.alloc (.cells #[U8 y3.kind, .int .i64 y3.n, .string y3.s, .slice Ab1 y3.l.length cb1, .slice Ab2 y3.o.length cb2] TVAL)) (fun _ => True) (.agg #[U8 y3.kind, .int .i64 y3.n, .string y3.s, .slice Ab1 y3.l.length cb1, .slice Ab2 y3.o.length cb2]) y3 from VAt.ext (VAt.more ⟨_, _, rfl, hly, hoy⟩ fun _ _ _ => trivial) hA)
        clear hA
        clear hly hoy hE
        clear qx0 qx1 qx2 qx3 qx4 qm0 qm1 qm2 qm3 qm4
        obtain ⟨qi0, qi1, qi2, qi3, qi4⟩ := blk5 HBi.out
        go_wp2_with fail
        generalize w15.alloc (.cells #[U8 y3.kind, .int .i64 y3.n, .string y3.s, .slice Ab1 y3.l.length cb1, .slice Ab2 y3.o.length cb2] TVAL) = w16 at *
        refine H.wp_region_free 7 [1, 2, 3] [0, 4, 5, 6, 7, 8] [9] [10]
          (H.specOf [(4, OutV y5), (8, BoxQ w16.heap.size)])
          (fun w' => Ext w16 w') ?_ (H.stableC_ext _) (by kernel_rfl) rfl (by kernel_rfl) (Keep.drew (Keep.refl _ _)) ?_
        · exact H.stable_cons (fun n m v w w' h he => h.ext he) (H.stable_cons (fun n m v w w' h he => h.ext he) H.stable_nil)
        iterate 3
          (try simp only [Act.put, List.setIfInBounds_toArray, List.set_cons_zero, List.set_cons_succ])
          refine H.pure_run rfl rfl ?_
          apply Exists.intro
          refine ⟨fun w' => ?_, ?_⟩
          · go_simp
            rfl
        refine H.pure_nil ?_
        iterate 1
          (try simp only [Act.put, List.setIfInBounds_toArray, List.set_cons_zero, List.set_cons_succ])
          refine H.growP_run rfl rfl rfl ?_
          apply Exists.intro
          refine ⟨fun w' hC hK => ?_, ?_⟩
          · have qi0 := (hC.cell (lt_of_cell qi0) id).trans qi0
            have qi1 := (hC.cell (lt_of_cell qi1) id).trans qi1
            have qi2 := (hC.cell (lt_of_cell qi2) id).trans qi2
            have qi3 := (hC.cell (lt_of_cell qi3) id).trans qi3
            have qi4 := (hC.cell (lt_of_cell qi4) id).trans qi4
            go_simp
            rfl
        (try simp only [Act.put, List.setIfInBounds_toArray, List.set_cons_zero, List.set_cons_succ])
        refine H.growP_eff rfl rfl rfl (fun w' hC hK => ?_) (fun v4 nv4 mv4 hv4 => ?_)
        · have hcall := (path_get w' _ _ y1 (p.drop n) _ _ (HVi.out.ext hC) (HTL.out.ext ESt.ok hC) (by have := HZ.out.1; omega)).mono fun e w'' h => get_out H5.out h
          unfold H.growAt
          go_simp
          exact H.grow_call hcall
        obtain ⟨_, _, hr⟩ := hv4.head
        obtain ⟨Ac1, cc1, Ac2, cc2, rfl⟩ := hr.head
        iterate 3
          (try simp only [Act.put, List.setIfInBounds_toArray, List.set_cons_zero, List.set_cons_succ])
          refine H.growP_run rfl rfl rfl ?_
          apply Exists.intro
          refine ⟨fun w' hC hK => ?_, ?_⟩
          · go_simp
            rfl
        (try simp only [Act.put, List.setIfInBounds_toArray, List.set_cons_zero, List.set_cons_succ])
        refine H.growP_eff rfl rfl rfl (fun w' hC hK => ?_) (fun v8 nv8 mv8 hv8 => ?_)
        · unfold H.growAt
          go_simp
          exact ⟨(Keep.refl _ _).alloc _, hC.size, rfl, by simp, Blk.new _ _ _⟩
        obtain ⟨_, _, hn, rfl, hnm, _⟩ := hv8.head
        refine H.growP_nil fun w7 hC hK => ?_
        have hbox : BoxQ w16.heap.size nv8 mv8 (.pointer (some ⟨nv8, 0, none⟩)) w7 := (hK.1 (8, _) List.mem_cons_self).1
        have hout : OutV y5 nv4 mv4 (.tuple #[.agg #[U8 y5.kind, .int .i64 y5.n, .string y5.s, .slice Ac1 y5.l.length cc1, .slice Ac2 y5.o.length cc2], .int .u16 0]) w7 := (hK.1 (4, _) (List.mem_cons_of_mem _ List.mem_cons_self)).1
        have hap : mv8 ≤ nv4 ∨ mv4 ≤ nv8 := hK.2 (8, _) List.mem_cons_self (4, _) (List.mem_cons_of_mem _ List.mem_cons_self) (by simp)
        obtain ⟨bq0, bq1, bq2, bq3, bq4⟩ := blk5 hbox.2.2.2
        have bf0 := hbox.2.2.2.frozen 0
        have bf1 := hbox.2.2.2.frozen 1
        have bf2 := hbox.2.2.2.frozen 2
        have bf3 := hbox.2.2.2.frozen 3
        have bf4 := hbox.2.2.2.frozen 4
        have HF := hid (OutV.fill hC hbox hout hap)
        clear hbox hout hap hK hn hnm hr qi0 qi1 qi2 qi3 qi4 hv4 hv8 hC
        change wpList _ _ _ (_ :: []) _ _
        (try simp only [Act.put, List.setIfInBounds_toArray, List.set_cons_zero, List.set_cons_succ])
        go_wp2_with fail
        refine H.Then.normal ?_
        iterate 1
          (try simp only [Act.put, List.setIfInBounds_toArray, List.set_cons_zero, List.set_cons_succ])
          refine H.pure_run rfl rfl ?_
          apply Exists.intro
          refine ⟨fun w' => ?_, ?_⟩
          · go_simp
            rfl
        refine H.pure_nil ?_
        refine NoPanic.normal ?_
        (try simp only [Act.put, List.setIfInBounds_toArray, List.set_cons_zero, List.set_cons_succ])
        obtain ⟨hE8, hB8, hV8⟩ := HF.out
        clear HF bq0 bq1 bq2 bq3 bq4 bf0 bf1 bf2 bf3 bf4
        change Exit.then _ _ Exit.normal _ (fillW w7 nv8 (U8 y5.kind) (.int .i64 y5.n) (.string y5.s) (.slice Ac1 y5.l.length cc1) (.slice Ac2 y5.o.length cc2))
        generalize fillW w7 nv8 (U8 y5.kind) (.int .i64 y5.n) (.string y5.s) (.slice Ac1 y5.l.length cc1) (.slice Ac2 y5.o.length cc2) = w17 at *
        replace HL := hid (HL.out.ext ETok.ok hE8)
        replace HM := hid (HM.out.ext ETok.ok hE8)
        replace HC := hid (HC.out.ext EU8.ok hE8)
        replace HEW := hid (HEW.out.ext hE8)
        replace HBx := hid (HBx.out.keep hE8 id)
        replace HVx := hid (HVx.out.ext hE8)
        replace HBm := hid (HBm.out.keep hE8 id)
        replace HVm := hid (HVm.out.ext hE8)
        replace HPp := hid (HPp.out.ext ESt.ok hE8)
        replace HFR := hid (HFR.out.ext ESt.ok hE8)
        replace HTL := hid (HTL.out.ext ESt.ok hE8)
        replace HBi := hid (HBi.out.keep hE8 id)
        replace HVi := hid (HVi.out.ext hE8)
        replace HBj := hid (HBj.out.keep hE8 id)
        replace HVj := hid (HVj.out.ext hE8)
        replace HBa := hid (HBa.out.keep hE8 id)
        replace HVa := hid (HVa.out.ext hE8)
        replace HBb := hid (HBb.out.keep hE8 id)
        replace HVb := hid (HVb.out.ext hE8)
        have HBc := hid hB8
        have HVc := hid hV8
        clear hE8 hB8 hV8
        obtain ⟨qx0, qx1, qx2, qx3, qx4⟩ := blk5 HBx.out
        go_wp2_with fail
        refine (path_get _ _ _ _ _ _ _ HVx.out HPp.out (by have := HSx.out.2; omega)).mono ?_
        rintro e w18 hg
        rw [H6.out] at hg
        obtain ⟨u, rfl, hva, hE⟩ := hg.val
        obtain ⟨ly, oy, rfl, hly, hoy⟩ := hva
        obtain ⟨Ad1, cd1, rfl, _⟩ := hly.shape
        obtain ⟨Ad2, cd2, rfl, _⟩ := hoy.shape
        have hA : Ext w18 (w18.alloc (.cells #[U8 y5.kind, .int .i64 y5.n, .string y5.s, .slice Ad1 y5.l.length cd1, .slice Ad2 y5.o.length cd2] TVAL)) := (Keep.refl _ _).alloc _
        replace HL := hid (HL.out.ext ETok.ok (hE.ext hA))
        replace HM := hid (HM.out.ext ETok.ok (hE.ext hA))
        replace HC := hid (HC.out.ext EU8.ok (hE.ext hA))
        replace HEW := hid (HEW.out.ext (hE.ext hA))
        replace HBx := hid (HBx.out.keep (hE.ext hA) id)
        replace HVx := hid (HVx.out.ext (hE.ext hA))
        replace HBm := hid (HBm.out.keep (hE.ext hA) id)
        replace HVm := hid (HVm.out.ext (hE.ext hA))
        replace HPp := hid (HPp.out.ext ESt.ok (hE.ext hA))
        replace HFR := hid (HFR.out.ext ESt.ok (hE.ext hA))
        replace HTL := hid (HTL.out.ext ESt.ok (hE.ext hA))
        replace HBi := hid (HBi.out.keep (hE.ext hA) id)
        replace HVi := hid (HVi.out.ext (hE.ext hA))
        replace HBj := hid (HBj.out.keep (hE.ext hA) id)
        replace HVj := hid (HVj.out.ext (hE.ext hA))
        replace HBa := hid (HBa.out.keep (hE.ext hA) id)
        replace HVa := hid (HVa.out.ext (hE.ext hA))
        replace HBb := hid (HBb.out.keep (hE.ext hA) id)
        replace HVb := hid (HVb.out.ext (hE.ext hA))
        replace HBc := hid (HBc.out.keep (hE.ext hA) id)
        replace HVc := hid (HVc.out.ext (hE.ext hA))
        have HBd := hid (Blk.new w18 TVAL #[U8 y5.kind, .int .i64 y5.n, .string y5.s, .slice Ad1 y5.l.length cd1, .slice Ad2 y5.o.length cd2])
        have HVd := hid (show VAt (w18.alloc (.cells #[U8 y5.kind, .int .i64 y5.n, .string y5.s, .slice Ad1 y5.l.length cd1, .slice Ad2 y5.o.length cd2] TVAL)) (fun _ => True) (.agg #[U8 y5.kind, .int .i64 y5.n, .string y5.s, .slice Ad1 y5.l.length cd1, .slice Ad2 y5.o.length cd2]) y5 from VAt.ext (VAt.more ⟨_, _, rfl, hly, hoy⟩ fun _ _ _ => trivial) hA)
        clear hA
        clear hly hoy hE
        clear qx0 qx1 qx2 qx3 qx4
        obtain ⟨qa0, qa1, qa2, qa3, qa4⟩ := blk5 HBa.out
        obtain ⟨qb0, qb1, qb2, qb3, qb4⟩ := blk5 HBb.out
        go_wp2_with fail
        generalize w18.alloc (.cells #[U8 y5.kind, .int .i64 y5.n, .string y5.s, .slice Ad1 y5.l.length cd1, .slice Ad2 y5.o.length cd2] TVAL) = w19 at *
        refine (same_eq _ y3 (Nat.le_refl _) _ _ _ _ _ HVa.out HVb.out).mono ?_
        rintro e we ⟨rfl, hE⟩
        replace HL := hid (HL.out.ext ETok.ok hE)
        replace HM := hid (HM.out.ext ETok.ok hE)
        replace HC := hid (HC.out.ext EU8.ok hE)
        replace HEW := hid (HEW.out.ext hE)
        replace HBx := hid (HBx.out.keep hE id)
        replace HVx := hid (HVx.out.ext hE)
        replace HBm := hid (HBm.out.keep hE id)
        replace HVm := hid (HVm.out.ext hE)
        replace HPp := hid (HPp.out.ext ESt.ok hE)
        replace HFR := hid (HFR.out.ext ESt.ok hE)
        replace HTL := hid (HTL.out.ext ESt.ok hE)
        replace HBi := hid (HBi.out.keep hE id)
        replace HVi := hid (HVi.out.ext hE)
        replace HBj := hid (HBj.out.keep hE id)
        replace HVj := hid (HVj.out.ext hE)
        replace HBa := hid (HBa.out.keep hE id)
        replace HVa := hid (HVa.out.ext hE)
        replace HBb := hid (HBb.out.keep hE id)
        replace HVb := hid (HVb.out.ext hE)
        replace HBc := hid (HBc.out.keep hE id)
        replace HVc := hid (HVc.out.ext hE)
        replace HBd := hid (HBd.out.keep hE id)
        replace HVd := hid (HVd.out.ext hE)
        clear hE
        clear qa0 qa1 qa2 qa3 qa4 qb0 qb1 qb2 qb3 qb4
        obtain ⟨qc0, qc1, qc2, qc3, qc4⟩ := blk5 HBc.out
        obtain ⟨qd0, qd1, qd2, qd3, qd4⟩ := blk5 HBd.out
        go_wp2_with fail
        refine (same_eq _ y5 (Nat.le_refl _) _ _ _ _ _ HVc.out HVd.out).mono ?_
        rintro e we2 ⟨rfl, hE⟩
        replace HEW := hid (HEW.out.ext hE)
        clear hE
        go_wp2
        go_ret
        exact ⟨rfl, HEW.out⟩
theorem deep_lift {Q0 Q1 Q3 : Prop} (v : Value) (ts : List Tk) (cv : Value) (cl : List UInt8) (k : Int) (mv : Value) (ms : List Tk) (w : World) (h0 : Sl ETok w (fun k => k < w.heap.size) v ts) (q0 : Q0) (h1 : BytesS w (fun k => k < w.heap.size) cv cl) (q1 : Q1) (hk : (Lit.int .i64 k).wf = true) (h3 : Sl ETok w (fun k => k < w.heap.size) mv ms) (q3 : Q3) :
    Calls Tryd.prog 4 #[v, cv, .int .i64 k, mv] w fun e w' => e = .returned (.bool true) ∧ Below w.heap.size w w' :=
  (deep_walk v cv mv k hk ts cl ms w (h0.more ETok.ok fun _ _ _ => trivial) (h1.more EU8.ok fun _ _ _ => trivial) (h3.more ETok.ok fun _ _ _ => trivial)).mono fun e w' h => ⟨h.1, h.2.toBelow⟩
end Go.Proofs.YtjdpljjbgggpiaaDoor
