/- What is put at one path changes nothing at another one: the walk. -/
import Derived.Test.YtjdpljjbgggpiaaDoorPathAid
import Derived.Test.YtjdpljjbgggpiaaDoorPathBeg
set_option linter.unusedSimpArgs false
set_option linter.unusedVariables false
namespace Go.Proofs.YtjdpljjbgggpiaaDoor
open Go.RowKit
set_option linter.unusedVariables false
set_option maxHeartbeats 12800000 in
theorem apart_walk (lv cv dv mv : Value) (ts : List Tk) (cl dl : List UInt8) (ms : List Tk) (w : World) (hl : Sl ETok w (fun _ => True) lv ts) (hc : BytesS w (fun _ => True) cv cl) (hd : BytesS w (fun _ => True) dv dl) (hm : Sl ETok w (fun _ => True) mv ms) :
    Calls Tryd.prog 9 #[lv, cv, dv, mv] w fun e w' => e = .returned (.bool true) ∧ Ext w w' := by
  obtain ⟨A, c, rfl, _, _⟩ := hl.shape
  obtain ⟨Ac, cc, rfl, _, _⟩ := hc.shape
  obtain ⟨Ad, cd, rfl, _, _⟩ := hd.shape
  obtain ⟨Am, cm, rfl, _, _⟩ := hm.shape
  have HL := hid hl
  have HC := hid hc
  have HD := hid hd
  have HM := hid hm
  clear hl hc hd hm
  go_enter Tryd.func9, Tryd.ntmps9
  have hend : ∀ wx, Ext w wx → Calls Tryd.prog 11 #[] wx fun e w' => e = .returned (.bool true) ∧ Ext w w' := fun wx h => (known3_ok wx).mono fun e w' h2 => ⟨h2.1, h.ext h2.2⟩
  have HEND := hid hend
  clear hend
  have HEW := hid (Keep.refl (fun _ => False) w)
  go_wp2_with fail
  refine (heavy_ok _ _ _ _ _ _ [] HL.out (Sl.nil _ (fun _ => True))).mono ?_
  rintro e w1 ⟨bw1, rfl, hb, hE⟩
  
  clear hb
  replace HL := hid (HL.out.ext ETok.ok hE)
  replace HM := hid (HM.out.ext ETok.ok hE)
  replace HC := hid (HC.out.ext EU8.ok hE)
  replace HD := hid (HD.out.ext EU8.ok hE)
  replace HEW := hid (HEW.out.ext hE)
  clear hE
  cases bw1 with
  | true =>
    go_wp2_with fail
    refine (HEND.out _ HEW.out).mono ?_
    rintro e w2 ⟨rfl, hz⟩
    have HZ := hid hz
    clear hz
    go_wp2
    go_ret
    exact ⟨rfl, HZ.out⟩
  | false =>
    go_wp2_with fail
    refine (heavy_ok _ _ _ _ _ _ [] HM.out (Sl.nil _ (fun _ => True))).mono ?_
    rintro e w3 ⟨bw3, rfl, hb, hE⟩
    
    clear hb
    replace HL := hid (HL.out.ext ETok.ok hE)
    replace HM := hid (HM.out.ext ETok.ok hE)
    replace HC := hid (HC.out.ext EU8.ok hE)
    replace HD := hid (HD.out.ext EU8.ok hE)
    replace HEW := hid (HEW.out.ext hE)
    clear hE
    cases bw3 with
    | true =>
      go_wp2_with fail
      refine (HEND.out _ HEW.out).mono ?_
      rintro e w4 ⟨rfl, hz⟩
      have HZ := hid hz
      clear hz
      go_wp2
      go_ret
      exact ⟨rfl, HZ.out⟩
    | false =>
      by_cases hlcl : 20 < cl.length
      · have hlXcl : (20 : Int) < cl.length := by omega
        go_wp2_with fail
        refine (HEND.out _ HEW.out).mono ?_
        rintro e w5 ⟨rfl, hz⟩
        have HZ := hid hz
        clear hz
        go_wp2
        go_ret
        exact ⟨rfl, HZ.out⟩
      · have hlXcl : ¬ (20 : Int) < cl.length := by omega
        by_cases hldl : 20 < dl.length
        · have hlXdl : (20 : Int) < dl.length := by omega
          go_wp2_with fail
          refine (HEND.out _ HEW.out).mono ?_
          rintro e w6 ⟨rfl, hz⟩
          have HZ := hid hz
          clear hz
          go_wp2
          go_ret
          exact ⟨rfl, HZ.out⟩
        · have hlXdl : ¬ (20 : Int) < dl.length := by omega
          go_wp2_with fail
          refine (known3_ok _).mono ?_
          rintro e w7 ⟨rfl, hE⟩
          replace HL := hid (HL.out.ext ETok.ok hE)
          replace HM := hid (HM.out.ext ETok.ok hE)
          replace HC := hid (HC.out.ext EU8.ok hE)
          replace HD := hid (HD.out.ext EU8.ok hE)
          replace HEW := hid (HEW.out.ext hE)
          clear hE HEND
          go_wp2_with fail
          refine (build_ok _ _ _ _ HL.out).mono ?_
          rintro e w8 ⟨u, x, rfl, hsv, hsz, ⟨lx, ox, rfl, hlx, hox⟩, hE⟩
          obtain ⟨Ax1, cx1, rfl, _⟩ := hlx.shape
          obtain ⟨Ax2, cx2, rfl, _⟩ := hox.shape
          have HSx := hid (And.intro hsv hsz)
          clear hsv hsz
          have hA : Ext w8 (w8.alloc (.cells #[U8 x.kind, .int .i64 x.n, .string x.s, .slice Ax1 x.l.length cx1, .slice Ax2 x.o.length cx2] TVAL)) := (Keep.refl _ _).alloc _
          replace HL := hid (HL.out.ext ETok.ok (hE.ext hA))
          replace HM := hid (HM.out.ext ETok.ok (hE.ext hA))
          replace HC := hid (HC.out.ext EU8.ok (hE.ext hA))
          replace HD := hid (HD.out.ext EU8.ok (hE.ext hA))
          replace HEW := hid (HEW.out.ext (hE.ext hA))
          have HBx := hid (Blk.new w8 TVAL #[U8 x.kind, .int .i64 x.n, .string x.s, .slice Ax1 x.l.length cx1, .slice Ax2 x.o.length cx2])
          have HVx := hid (show VAt (w8.alloc (.cells #[U8 x.kind, .int .i64 x.n, .string x.s, .slice Ax1 x.l.length cx1, .slice Ax2 x.o.length cx2] TVAL)) (fun _ => True) (.agg #[U8 x.kind, .int .i64 x.n, .string x.s, .slice Ax1 x.l.length cx1, .slice Ax2 x.o.length cx2]) x from VAt.ext (VAt.more ⟨_, _, rfl, hlx, hox⟩ fun _ _ _ => trivial) hA)
          clear hA
          clear hlx hox hE
          obtain ⟨qx0, qx1, qx2, qx3, qx4⟩ := blk5 HBx.out
          go_wp2_with fail
          generalize w8.alloc (.cells #[U8 x.kind, .int .i64 x.n, .string x.s, .slice Ax1 x.l.length cx1, .slice Ax2 x.o.length cx2] TVAL) = w9 at *
          refine (walk_ok x _ _ cl _ _ _ HVx.out HSx.out.1 (by have := HSx.out.2; omega) HC.out).mono ?_
          rintro e w10 ⟨u, p, rfl, hp, hwk, hE⟩
          obtain ⟨Ap, cp, rfl, hpl, hpm⟩ := hp.shape
          have HPp := hid ((hp.sl ESt.ok).more ESt.ok (S' := fun _ => True) fun _ _ _ => trivial)
          have HWp := hid hwk
          clear hp hwk
          replace HL := hid (HL.out.ext ETok.ok hE)
          replace HM := hid (HM.out.ext ETok.ok hE)
          replace HC := hid (HC.out.ext EU8.ok hE)
          replace HD := hid (HD.out.ext EU8.ok hE)
          replace HEW := hid (HEW.out.ext hE)
          replace HBx := hid (HBx.out.keep hE id)
          replace HVx := hid (HVx.out.ext hE)
          clear hE
          clear qx0 qx1 qx2 qx3 qx4
          obtain ⟨qx0, qx1, qx2, qx3, qx4⟩ := blk5 HBx.out
          go_wp2_with fail
          refine (walk_ok x _ _ dl _ _ _ HVx.out HSx.out.1 (by have := HSx.out.2; omega) HD.out).mono ?_
          rintro e w11 ⟨u, q, rfl, hp, hwk, hE⟩
          obtain ⟨Aq, cq, rfl, hql, hqm⟩ := hp.shape
          have HPq := hid ((hp.sl ESt.ok).more ESt.ok (S' := fun _ => True) fun _ _ _ => trivial)
          have HWq := hid hwk
          clear hp hwk
          replace HL := hid (HL.out.ext ETok.ok hE)
          replace HM := hid (HM.out.ext ETok.ok hE)
          replace HC := hid (HC.out.ext EU8.ok hE)
          replace HD := hid (HD.out.ext EU8.ok hE)
          replace HEW := hid (HEW.out.ext hE)
          replace HBx := hid (HBx.out.keep hE id)
          replace HVx := hid (HVx.out.ext hE)
          replace HPp := hid (HPp.out.ext ESt.ok hE)
          clear hE
          clear qx0 qx1 qx2 qx3 qx4
          go_wp2_with fail
          refine (begins_ok _ _ _ _ _ p q HPp.out HPq.out).mono ?_
          rintro e w12 ⟨⟨rfl, hpq⟩ | ⟨rfl, hpq⟩, hE⟩
          · replace HEW := hid (HEW.out.ext hE)
            clear hE hpq
            go_wp2
            go_ret
            exact ⟨rfl, HEW.out⟩
          · have HNpq := hid hpq
            clear hpq
            replace HL := hid (HL.out.ext ETok.ok hE)
            replace HM := hid (HM.out.ext ETok.ok hE)
            replace HC := hid (HC.out.ext EU8.ok hE)
            replace HD := hid (HD.out.ext EU8.ok hE)
            replace HEW := hid (HEW.out.ext hE)
            replace HBx := hid (HBx.out.keep hE id)
            replace HVx := hid (HVx.out.ext hE)
            replace HPp := hid (HPp.out.ext ESt.ok hE)
            replace HPq := hid (HPq.out.ext ESt.ok hE)
            clear hE
            go_wp2_with fail
            refine (begins_ok _ _ _ _ _ q p HPq.out HPp.out).mono ?_
            rintro e w13 ⟨⟨rfl, hqp⟩ | ⟨rfl, hqp⟩, hE⟩
            · replace HEW := hid (HEW.out.ext hE)
              clear hE hqp
              go_wp2
              go_ret
              exact ⟨rfl, HEW.out⟩
            · have HNqp := hid hqp
              clear hqp
              replace HL := hid (HL.out.ext ETok.ok hE)
              replace HM := hid (HM.out.ext ETok.ok hE)
              replace HC := hid (HC.out.ext EU8.ok hE)
              replace HD := hid (HD.out.ext EU8.ok hE)
              replace HEW := hid (HEW.out.ext hE)
              replace HBx := hid (HBx.out.keep hE id)
              replace HVx := hid (HVx.out.ext hE)
              replace HPp := hid (HPp.out.ext ESt.ok hE)
              replace HPq := hid (HPq.out.ext ESt.ok hE)
              clear hE
              obtain ⟨yq, hyq⟩ := HWq.out.get
              obtain ⟨yp, hyp⟩ := HWp.out.get
              have HYq := hid hyq
              have HYp := hid hyp
              clear hyq hyp
              obtain ⟨qx0, qx1, qx2, qx3, qx4⟩ := blk5 HBx.out
              go_wp2_with fail
              refine (path_get _ _ _ _ _ _ _ HVx.out HPq.out (by have := HSx.out.2; omega)).mono ?_
              rintro e w14 hg
              rw [HYq.out] at hg
              obtain ⟨u, rfl, hva, hE⟩ := hg.val
              obtain ⟨ly, oy, rfl, hly, hoy⟩ := hva
              obtain ⟨Aa1, ca1, rfl, _⟩ := hly.shape
              obtain ⟨Aa2, ca2, rfl, _⟩ := hoy.shape
              have hA : Ext w14 (w14.alloc (.cells #[U8 yq.kind, .int .i64 yq.n, .string yq.s, .slice Aa1 yq.l.length ca1, .slice Aa2 yq.o.length ca2] TVAL)) := (Keep.refl _ _).alloc _
              replace HL := hid (HL.out.ext ETok.ok (hE.ext hA))
              replace HM := hid (HM.out.ext ETok.ok (hE.ext hA))
              replace HC := hid (HC.out.ext EU8.ok (hE.ext hA))
              replace HD := hid (HD.out.ext EU8.ok (hE.ext hA))
              replace HEW := hid (HEW.out.ext (hE.ext hA))
              replace HBx := hid (HBx.out.keep (hE.ext hA) id)
              replace HVx := hid (HVx.out.ext (hE.ext hA))
              replace HPp := hid (HPp.out.ext ESt.ok (hE.ext hA))
              replace HPq := hid (HPq.out.ext ESt.ok (hE.ext hA))
              have HBa := hid (Blk.new w14 TVAL #[U8 yq.kind, .int .i64 yq.n, .string yq.s, .slice Aa1 yq.l.length ca1, .slice Aa2 yq.o.length ca2])
              have HVa := hid (show VAt (w14.alloc (.cells #[U8 yq.kind, .int .i64 yq.n, .string yq.s, .slice Aa1 yq.l.length ca1, .slice Aa2 yq.o.length ca2] TVAL)) (fun _ => True) (.agg #[U8 yq.kind, .int .i64 yq.n, .string yq.s, .slice Aa1 yq.l.length ca1, .slice Aa2 yq.o.length ca2]) yq from VAt.ext (VAt.more ⟨_, _, rfl, hly, hoy⟩ fun _ _ _ => trivial) hA)
              clear hA
              clear hly hoy hE
              clear qx0 qx1 qx2 qx3 qx4
              obtain ⟨qx0, qx1, qx2, qx3, qx4⟩ := blk5 HBx.out
              go_wp2_with fail
              generalize w14.alloc (.cells #[U8 yq.kind, .int .i64 yq.n, .string yq.s, .slice Aa1 yq.l.length ca1, .slice Aa2 yq.o.length ca2] TVAL) = w15 at *
              have hsx : x.size ≤ 1000000 := by have := HSx.out.2; omega
              refine H.wp_region_free 7 [1, 2] [0, 3, 4, 5, 6, 7, 8] [9] [10]
                (H.specOf [(3, BuiltV), (4, PutV x p), (8, BoxQ w15.heap.size)])
                (fun w' => Ext w15 w') ?_ (H.stableC_ext _) (by kernel_rfl) rfl (by kernel_rfl) (Keep.drew (Keep.refl _ _)) ?_
              · exact H.stable_cons (fun n m v w w' h he => h.ext he) (H.stable_cons (fun n m v w w' h he => h.ext he) (H.stable_cons (fun n m v w w' h he => h.ext he) H.stable_nil))
              iterate 2
                (try simp only [Act.put, List.setIfInBounds_toArray, List.set_cons_zero, List.set_cons_succ])
                refine H.pure_run rfl rfl ?_
                apply Exists.intro
                refine ⟨fun w' => ?_, ?_⟩
                · go_simp
                  rfl
              refine H.pure_nil ?_
              iterate 1
                (try simp only [Act.put, List.setIfInBounds_toArray, List.set_cons_zero, List.set_cons_succ])
                refine H.growP_run rfl rfl rfl ?_
                apply Exists.intro
                refine ⟨fun w' hC hK => ?_, ?_⟩
                · have qx0 := (hC.cell (lt_of_cell qx0) id).trans qx0
                  have qx1 := (hC.cell (lt_of_cell qx1) id).trans qx1
                  have qx2 := (hC.cell (lt_of_cell qx2) id).trans qx2
                  have qx3 := (hC.cell (lt_of_cell qx3) id).trans qx3
                  have qx4 := (hC.cell (lt_of_cell qx4) id).trans qx4
                  go_simp
                  rfl
              (try simp only [Act.put, List.setIfInBounds_toArray, List.set_cons_zero, List.set_cons_succ])
              refine H.growP_eff rfl rfl rfl (fun w' hC hK => ?_) (fun v3 nv3 mv3 hv3 => ?_)
              · unfold H.growAt
                go_simp
                refine H.grow_call ((build_ok ms _ _ w' (HM.out.ext ETok.ok hC)).mono ?_)
                rintro e w'' ⟨u, b, rfl, h1, h2, h3, h4⟩
                exact ⟨_, rfl, h4, b, h1, h2, VAt.form (h3.more fun _ _ _ => trivial)⟩
              obtain ⟨_, _, b0, hb1, hb2, B1, e1, B2, e2, rfl, _⟩ := hv3.head
              (try simp only [Act.put, List.setIfInBounds_toArray, List.set_cons_zero, List.set_cons_succ])
              refine H.growP_eff rfl rfl rfl (fun w' hC hK => ?_) (fun v4 nv4 mv4 hv4 => ?_)
              · obtain ⟨b, hs1, hs2, C1, d1, C2, d2, e9, hva9⟩ : BuiltV _ _ (.agg #[U8 b0.kind, .int .i64 b0.n, .string b0.s, .slice B1 b0.l.length e1, .slice B2 b0.o.length e2]) w' := hK.get (i := 3) List.mem_cons_self (by kernel_rfl)
                obtain ⟨z, hz⟩ : ∃ z, putV x p b = some z := Option.isSome_iff_exists.1 (by rw [← putV_some, HYp.out]; rfl)
                have hcall := (path_put w' _ _ _ x b p _ _ _ (HVx.out.ext hC) hva9 (HPp.out.ext ESt.ok hC) hsx (by omega)).mono fun e w'' h => put_putV hs1 hs2 hz h
                clear e9
                unfold H.growAt
                go_simp
                exact H.grow_call hcall
              obtain ⟨_, _, b, z, hs1, hs2, hz, C1, d1, C2, d2, rfl, _⟩ := hv4.head
              iterate 3
                (try simp only [Act.put, List.setIfInBounds_toArray, List.set_cons_zero, List.set_cons_succ])
                refine H.growP_run rfl rfl rfl ?_
                apply Exists.intro
                refine ⟨fun w' hC hK => ?_, ?_⟩
                · go_simp
                  rfl
              (try simp only [Act.put, List.setIfInBounds_toArray, List.set_cons_zero, List.set_cons_succ])
              refine H.growP_eff rfl rfl rfl (fun w' hC hK => ?_) (fun v8 nv8 mv8 hv8 => ?_)
              · unfold H.growAt
                go_simp
                exact ⟨(Keep.refl _ _).alloc _, hC.size, rfl, by simp, Blk.new _ _ _⟩
              obtain ⟨_, _, hn8, rfl, hnm8, _⟩ := hv8.head
              refine H.growP_nil fun w7 hC hK => ?_
              have hbox : BoxQ w15.heap.size nv8 mv8 (.pointer (some ⟨nv8, 0, none⟩)) w7 := (hK.1 (8, _) List.mem_cons_self).1
              have hput : PutV x p nv4 mv4 (.tuple #[.agg #[U8 z.kind, .int .i64 z.n, .string z.s, .slice C1 z.l.length d1, .slice C2 z.o.length d2], .int .u16 0]) w7 := (hK.1 (4, _) (List.mem_cons_of_mem _ List.mem_cons_self)).1
              have hap : mv8 ≤ nv4 ∨ mv4 ≤ nv8 := hK.2 (8, _) List.mem_cons_self (4, _) (List.mem_cons_of_mem _ List.mem_cons_self) (by simp)
              have hfill := PutV.fill hC hbox hput hap
              obtain ⟨bq0, bq1, bq2, bq3, bq4⟩ := blk5 hbox.2.2.2
              have bf0 := hbox.2.2.2.frozen 0
              have bf1 := hbox.2.2.2.frozen 1
              have bf2 := hbox.2.2.2.frozen 2
              have bf3 := hbox.2.2.2.frozen 3
              have bf4 := hbox.2.2.2.frozen 4
              have HF := hid hfill
              clear hfill hbox hput hap hK hs1 hs2 hz hn8 hnm8 qx0 qx1 qx2 qx3 qx4 hv3 hv4 hv8 hb1 hb2
              change wpList _ _ _ (_ :: []) _ _
              (try simp only [Act.put, List.setIfInBounds_toArray, List.set_cons_zero, List.set_cons_succ])
              go_wp2_with fail
              refine H.Then.normal ?_
              iterate 1
                (try simp only [Act.put, List.setIfInBounds_toArray, List.set_cons_zero, List.set_cons_succ])
                refine H.pure_run rfl rfl ?_
                apply Exists.intro
                refine ⟨fun w' => ?_, ?_⟩
                · go_simp
                  rfl
              refine H.pure_nil ?_
              refine NoPanic.normal ?_
              (try simp only [Act.put, List.setIfInBounds_toArray, List.set_cons_zero, List.set_cons_succ])
              obtain ⟨hE8, hB8, b1, z1, hs1, hs2, hz, hV8⟩ := HF.out
              clear HF bq0 bq1 bq2 bq3 bq4 bf0 bf1 bf2 bf3 bf4 hC
              change Exit.then _ _ Exit.normal _ (fillW w7 nv8 (U8 z.kind) (.int .i64 z.n) (.string z.s) (.slice C1 z.l.length d1) (.slice C2 z.o.length d2))
              generalize fillW w7 nv8 (U8 z.kind) (.int .i64 z.n) (.string z.s) (.slice C1 z.l.length d1) (.slice C2 z.o.length d2) = w17 at *
              replace HL := hid (HL.out.ext ETok.ok hE8)
              replace HM := hid (HM.out.ext ETok.ok hE8)
              replace HC := hid (HC.out.ext EU8.ok hE8)
              replace HD := hid (HD.out.ext EU8.ok hE8)
              replace HEW := hid (HEW.out.ext hE8)
              replace HBx := hid (HBx.out.keep hE8 id)
              replace HVx := hid (HVx.out.ext hE8)
              replace HPp := hid (HPp.out.ext ESt.ok hE8)
              replace HPq := hid (HPq.out.ext ESt.ok hE8)
              replace HBa := hid (HBa.out.keep hE8 id)
              replace HVa := hid (HVa.out.ext hE8)
              have HBz := hid hB8
              have HVz := hid hV8
              have hgz : getV z1 q = some yq := (get_apart p q x b1 z1 (HWp.out.ok) (HWq.out.ok) HNqp.out HNpq.out hz).trans HYq.out
              have hzs : z1.size ≤ 1000 := by have := putV_size p x b1 z1 hz; have := HSx.out.2; omega
              have HZG := hid hgz
              have HZS := hid hzs
              clear hE8 hB8 hV8 hgz hzs hs1 hs2 hz
              obtain ⟨qz0, qz1, qz2, qz3, qz4⟩ := blk5 HBz.out
              go_wp2_with fail
              refine (path_get _ _ _ _ _ _ _ HVz.out HPq.out (by have := HZS.out; omega)).mono ?_
              rintro e w16 hg
              rw [HZG.out] at hg
              obtain ⟨u, rfl, hva, hE⟩ := hg.val
              obtain ⟨ly, oy, rfl, hly, hoy⟩ := hva
              obtain ⟨Af1, cf1, rfl, _⟩ := hly.shape
              obtain ⟨Af2, cf2, rfl, _⟩ := hoy.shape
              have hA : Ext w16 (w16.alloc (.cells #[U8 yq.kind, .int .i64 yq.n, .string yq.s, .slice Af1 yq.l.length cf1, .slice Af2 yq.o.length cf2] TVAL)) := (Keep.refl _ _).alloc _
              replace HL := hid (HL.out.ext ETok.ok (hE.ext hA))
              replace HM := hid (HM.out.ext ETok.ok (hE.ext hA))
              replace HC := hid (HC.out.ext EU8.ok (hE.ext hA))
              replace HD := hid (HD.out.ext EU8.ok (hE.ext hA))
              replace HEW := hid (HEW.out.ext (hE.ext hA))
              replace HBx := hid (HBx.out.keep (hE.ext hA) id)
              replace HVx := hid (HVx.out.ext (hE.ext hA))
              replace HPp := hid (HPp.out.ext ESt.ok (hE.ext hA))
              replace HPq := hid (HPq.out.ext ESt.ok (hE.ext hA))
              replace HBa := hid (HBa.out.keep (hE.ext hA) id)
              replace HVa := hid (HVa.out.ext (hE.ext hA))
              replace HBz := hid (HBz.out.keep (hE.ext hA) id)
              replace HVz := hid (HVz.out.ext (hE.ext hA))
              have HBf := hid (Blk.new w16 TVAL #[U8 yq.kind, .int .i64 yq.n, .string yq.s, .slice Af1 yq.l.length cf1, .slice Af2 yq.o.length cf2])
              have HVf := hid (show VAt (w16.alloc (.cells #[U8 yq.kind, .int .i64 yq.n, .string yq.s, .slice Af1 yq.l.length cf1, .slice Af2 yq.o.length cf2] TVAL)) (fun _ => True) (.agg #[U8 yq.kind, .int .i64 yq.n, .string yq.s, .slice Af1 yq.l.length cf1, .slice Af2 yq.o.length cf2]) yq from VAt.ext (VAt.more ⟨_, _, rfl, hly, hoy⟩ fun _ _ _ => trivial) hA)
              clear hA
              clear hly hoy hE
              clear qz0 qz1 qz2 qz3 qz4
              obtain ⟨qa0, qa1, qa2, qa3, qa4⟩ := blk5 HBa.out
              obtain ⟨qf0, qf1, qf2, qf3, qf4⟩ := blk5 HBf.out
              go_wp2_with fail
              generalize w16.alloc (.cells #[U8 yq.kind, .int .i64 yq.n, .string yq.s, .slice Af1 yq.l.length cf1, .slice Af2 yq.o.length cf2] TVAL) = w17 at *
              refine (same_eq _ yq (Nat.le_refl _) _ _ _ _ _ HVa.out HVf.out).mono ?_
              rintro e we ⟨rfl, hE⟩
              replace HEW := hid (HEW.out.ext hE)
              clear hE
              go_wp2
              go_ret
              exact ⟨rfl, HEW.out⟩
theorem apart_lift {Q0 Q1 Q2 Q3 : Prop} (v : Value) (ts : List Tk) (cv : Value) (cl : List UInt8) (dv : Value) (dl : List UInt8) (mv : Value) (ms : List Tk) (w : World) (h0 : Sl ETok w (fun k => k < w.heap.size) v ts) (q0 : Q0) (h1 : BytesS w (fun k => k < w.heap.size) cv cl) (q1 : Q1) (h2 : BytesS w (fun k => k < w.heap.size) dv dl) (q2 : Q2) (h3 : Sl ETok w (fun k => k < w.heap.size) mv ms) (q3 : Q3) :
    Calls Tryd.prog 9 #[v, cv, dv, mv] w fun e w' => e = .returned (.bool true) ∧ Below w.heap.size w w' :=
  (apart_walk v cv dv mv ts cl dl ms w (h0.more ETok.ok fun _ _ _ => trivial) (h1.more EU8.ok fun _ _ _ => trivial) (h2.more EU8.ok fun _ _ _ => trivial) (h3.more ETok.ok fun _ _ _ => trivial)).mono fun e w' h => ⟨h.1, h.2.toBelow⟩
end Go.Proofs.YtjdpljjbgggpiaaDoor
