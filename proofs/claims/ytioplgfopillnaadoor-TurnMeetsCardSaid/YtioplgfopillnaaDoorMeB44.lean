/- MeetG, MeetL: laid together. -/
import Derived.Test.YtioplgfopillnaaDoorMeB43
import Derived.Test.YtioplgfopillnaaDoorMeB26
import Derived.Test.YtioplgfopillnaaDoorRows
set_option linter.unusedSimpArgs false
set_option linter.unusedVariables false
set_option maxHeartbeats 25600000
set_option maxRecDepth 20000
namespace Go.Proofs.YtioplgfopillnaaDoor
open Go.RowKit
theorem meets07_ok (w0 w : World) (hva : ValAny w0) (hD : DecAny w0) (hw0 : Ext w0 w) (S S1 S2 : BS) (lv av bv : Value) (l : List Tk) (a b : Ac) (left : Bool) (hl : Sl ETok w S lv l) (ha : AAt w S1 av a) (hb : AAt w S2 bv b) (hwa : Wf a) (hwb : Wf b) :
  Calls Tryd.prog 5 #[lv, av, bv, .bool left] w fun e w' => e = .returned (.bool true) ∧ Ext w w' := by
 obtain ⟨A, c, rfl, hlc, hcm⟩ := hl.shape
 obtain ⟨p1, v1, rfl, a1, a2⟩ := ha
 obtain ⟨p2, v2, rfl, b1, b2⟩ := hb
 obtain ⟨Aa, ca, rfl, _⟩ := a1.shape
 obtain ⟨Av, cv, rfl, _⟩ := a2.shape
 obtain ⟨Ba, da, rfl, _⟩ := b1.shape
 obtain ⟨Bv, dv, rfl, _⟩ := b2.shape
 obtain ⟨W, hW⟩ : ∃ W, (w.alloc (.cells (acCells a (.slice Aa a.path.length ca) (.slice Av a.v.length cv)) TACT)).alloc (.cells (acCells b (.slice Ba b.path.length da) (.slice Bv b.v.length dv)) TACT) = W := ⟨_, rfl⟩
 have hE : Ext w W := by rw [← hW]; exact ((Keep.refl _ _).alloc _).alloc _
 have hba : Blk W w.heap.size TACT (acCells a (.slice Aa a.path.length ca) (.slice Av a.v.length cv)) := by rw [← hW]; exact (Blk.new _ _ _).alloc _
 have hbb : Blk W (w.heap.size + 1) TACT (acCells b (.slice Ba b.path.length da) (.slice Bv b.v.length dv)) := by
  have := Blk.new (w.alloc (.cells (acCells a (.slice Aa a.path.length ca) (.slice Av a.v.length cv)) TACT)) TACT (acCells b (.slice Ba b.path.length da) (.slice Bv b.v.length dv))
  rw [World.size_alloc, hW] at this
  exact this
 have HL := hid (hl.ext ETok.ok hE)
 have HA := hid (show AAt W S1 (.agg (acCells a (.slice Aa a.path.length ca) (.slice Av a.v.length cv))) a from ⟨_, _, rfl, a1.ext EU8.ok hE, a2.ext ETok.ok hE⟩)
 have HB := hid (show AAt W S2 (.agg (acCells b (.slice Ba b.path.length da) (.slice Bv b.v.length dv))) b from ⟨_, _, rfl, b1.ext EU8.ok hE, b2.ext ETok.ok hE⟩)
 have HE := hid hE
 have HBA := hid hba
 have HBB := hid hbb
 have HWA := hid hwa
 have HVA := hid hva
 have HD := hid hD
 have HW0 := hid hw0
 clear hva hD hw0
 have HWB := hid hwb
 obtain ⟨x0, x1, x2, x3, x4, x5, x6⟩ := sq7 hba
 obtain ⟨y0, y1, y2, y3, y4, y5, y6⟩ := sq7 hbb
 clear hl a1 a2 b1 b2 hE hba hbb hwa hwb hlc hcm
 go_enter Tryd.func5, Tryd.ntmps5
 go_wp2_with fail
 refine (heavy7_any W _ _ _ _ _ _ l a b HL.out HA.out HB.out).mono ?_
 rintro e W1 ⟨bb, rfl, hE1⟩
 clear hW
 cases bb with
 | true =>
  have HE1 := hid (HE.out.ext hE1)
  clear hE1
  go_wp2_with fail
  refine (known07_ok W1).mono ?_
  rintro e W2 ⟨rfl, hE2⟩
  go_wp2
  go_ret
  exact ⟨rfl, HE1.out.ext hE2⟩
 | false =>
  have HE1 := hid (HE.out.ext hE1)
  have HL1 := hid (HL.out.ext ETok.ok hE1)
  have HA1 := hid (HA.out.ext hE1)
  have HB1 := hid (HB.out.ext hE1)
  have HBA1 := hid (HBA.out.keep hE1 id)
  have HBB1 := hid (HBB.out.keep hE1 id)
  clear hE1 HL HA HB HBA HBB HE
  go_wp2_with fail
  refine (known07_ok W1).mono ?_
  rintro e W2 ⟨rfl, hE2⟩
  have HE2 := hid (HE1.out.ext hE2)
  have HL2 := hid (HL1.out.ext ETok.ok hE2)
  have HA2 := hid (HA1.out.ext hE2)
  have HB2 := hid (HB1.out.ext hE2)
  have HBA2 := hid (HBA1.out.keep hE2 id)
  have HBB2 := hid (HBB1.out.keep hE2 id)
  clear hE2 HL1 HA1 HB1 HBA1 HBB1 HE1 x0 x1 x2 x3 x4 x5 x6 y0 y1 y2 y3 y4 y5 y6
  go_wp2_with fail
  refine (build_okD _ _ _ _ HL2.out).mono ?_
  rintro e W3 ⟨u, x, rfl, hsv, hsz, ⟨lx, ox, rfl, hlx, hox⟩, hE3⟩
  obtain ⟨Ax1, cx1, rfl, _⟩ := hlx.shape
  obtain ⟨Ax2, cx2, rfl, _⟩ := hox.shape
  have hA : Ext W3 (W3.alloc (.cells #[U8 x.kind, .int .i64 x.n, .string x.s, .slice Ax1 x.l.length cx1, .slice Ax2 x.o.length cx2] TVAL)) := (Keep.refl _ _).alloc _
  have HSx := hid (And.intro hsv.1 hsz)
  have HE3 := hid (HE2.out.ext (hE3.ext hA))
  have HA3 := hid (HA2.out.ext (hE3.ext hA))
  have HB3 := hid (HB2.out.ext (hE3.ext hA))
  have HBA3 := hid (HBA2.out.keep (hE3.ext hA) id)
  have HBB3 := hid (HBB2.out.keep (hE3.ext hA) id)
  have HVB := hid (Blk.new W3 TVAL #[U8 x.kind, .int .i64 x.n, .string x.s, .slice Ax1 x.l.length cx1, .slice Ax2 x.o.length cx2])
  have HVx := hid (show VAt (W3.alloc (.cells #[U8 x.kind, .int .i64 x.n, .string x.s, .slice Ax1 x.l.length cx1, .slice Ax2 x.o.length cx2] TVAL)) (fun _ => True) (.agg #[U8 x.kind, .int .i64 x.n, .string x.s, .slice Ax1 x.l.length cx1, .slice Ax2 x.o.length cx2]) x from (VAt.ext ⟨_, _, rfl, hlx, hox⟩ hA).more fun _ _ _ => trivial)
  clear hsv hsz hlx hox hE3 hA HL2 HA2 HB2 HBA2 HBB2 HE2
  obtain ⟨v0, v1, v2, v3, v4⟩ := sq5 HVB.out
  obtain ⟨x0, x1, x2, x3, x4, x5, x6⟩ := sq7 HBA3.out
  obtain ⟨y0, y1, y2, y3, y4, y5, y6⟩ := sq7 HBB3.out
  go_wp2_with fail
  generalize W3.alloc (.cells #[U8 x.kind, .int .i64 x.n, .string x.s, .slice Ax1 x.l.length cx1, .slice Ax2 x.o.length cx2] TVAL) = W4 at *
  refine (one6_ok W4 _ _ _ _ x a HVx.out HSx.out.1 HSx.out.2 HA3.out HWA.out.1 HWA.out.2.1 HWA.out.2.2).mono ?_
  intro e W5 h
  obtain ⟨k1, A1, m1, c1, key1, i1, j1, n1, vk1, vn1, vs1, B1, p1, q1, D1, r1, s1, t1, o1, rfl, h1, hE5⟩ := h.form
  have hA : Ext W5 (W5.alloc (.cells #[.int .u8 k1, .slice A1 m1 c1, .string key1, .int .i64 i1, .int .i64 j1, .int .i64 n1, .int .u8 vk1, .int .i64 vn1, .string vs1, .slice B1 p1 q1, .slice D1 r1 s1, .string t1] TCMP)) := (Keep.refl _ _).alloc _
  have HX := hid (Blk.new W5 TCMP #[.int .u8 k1, .slice A1 m1 c1, .string key1, .int .i64 i1, .int .i64 j1, .int .i64 n1, .int .u8 vk1, .int .i64 vn1, .string vs1, .slice B1 p1 q1, .slice D1 r1 s1, .string t1])
  have HE5 := hid (HE3.out.ext (hE5.ext hA))
  have HB5 := hid (HB3.out.ext (hE5.ext hA))
  have HBB5 := hid (HBB3.out.keep (hE5.ext hA) id)
  have HVB5 := hid (HVB.out.keep (hE5.ext hA) id)
  have HV5 := hid (HVx.out.ext (hE5.ext hA))
  have H1 : Hid (o1 = 0 ∨ (o1 = 1 ∧ ∃ c, CAt (W5.alloc (.cells #[.int .u8 k1, .slice A1 m1 c1, .string key1, .int .i64 i1, .int .i64 j1, .int .i64 n1, .int .u8 vk1, .int .i64 vn1, .string vs1, .slice B1 p1 q1, .slice D1 r1 s1, .string t1] TCMP)) (fun q => W4.heap.size ≤ q) (.agg #[.int .u8 k1, .slice A1 m1 c1, .string key1, .int .i64 i1, .int .i64 j1, .int .i64 n1, .int .u8 vk1, .int .i64 vn1, .string vs1, .slice B1 p1 q1, .slice D1 r1 s1, .string t1]) c ∧ OneOk x c)) := hid (by
   rcases h1 with h1 | ⟨h1, c, hc, ho⟩
   ·exact .inl h1
   ·exact .inr ⟨h1, c, hc.ext hA, ho⟩)
  clear h h1 hE5 hA HA3 HB3 HBA3 HBB3 HE3 HVB HVx v0 v1 v2 v3 v4 x0 x1 x2 x3 x4 x5 x6 y0 y1 y2 y3 y4 y5 y6
  obtain ⟨v0, v1, v2, v3, v4⟩ := sq5 HVB5.out
  obtain ⟨y0, y1, y2, y3, y4, y5, y6⟩ := sq7 HBB5.out
  go_wp2_with fail
  generalize W5.alloc (.cells #[.int .u8 k1, .slice A1 m1 c1, .string key1, .int .i64 i1, .int .i64 j1, .int .i64 n1, .int .u8 vk1, .int .i64 vn1, .string vs1, .slice B1 p1 q1, .slice D1 r1 s1, .string t1] TCMP) = W6 at *
  refine (one6_ok W6 _ _ _ _ x b HV5.out HSx.out.1 HSx.out.2 HB5.out HWB.out.1 HWB.out.2.1 HWB.out.2.2).mono ?_
  intro e W7 h
  obtain ⟨k2, A2, m2, c2, key2, i2, j2, n2, vk2, vn2, vs2, B2, p2, q2, D2, r2, s2, t2, o2, rfl, h2, hE7⟩ := h.form
  have hA : Ext W7 (W7.alloc (.cells #[.int .u8 k2, .slice A2 m2 c2, .string key2, .int .i64 i2, .int .i64 j2, .int .i64 n2, .int .u8 vk2, .int .i64 vn2, .string vs2, .slice B2 p2 q2, .slice D2 r2 s2, .string t2] TCMP)) := (Keep.refl _ _).alloc _
  have HY := hid (Blk.new W7 TCMP #[.int .u8 k2, .slice A2 m2 c2, .string key2, .int .i64 i2, .int .i64 j2, .int .i64 n2, .int .u8 vk2, .int .i64 vn2, .string vs2, .slice B2 p2 q2, .slice D2 r2 s2, .string t2])
  have HX7 := hid (HX.out.keep (hE7.ext hA) id)
  have HE7 := hid (HE5.out.ext (hE7.ext hA))
  have HEA := hid (hE7.ext hA)
  have HA7 := hid hA
  have HVB7 := hid (HVB5.out.keep (hE7.ext hA) id)
  have HV7 := hid (HV5.out.ext (hE7.ext hA))
  have H2 := hid h2
  clear h h2 hE7 hA HB5 HBB5 HE5 HVB5 HV5 HX v0 v1 v2 v3 v4 y0 y1 y2 y3 y4 y5 y6
  rcases H1.out with rfl | ⟨rfl, cx, hcx, hox⟩
  ·clear H1 H2
   go_wp2
   go_ret
   exact ⟨rfl, HE7.out⟩
  ·rcases H2.out with rfl | ⟨rfl, cy, hcy, hoy⟩
   ·clear H1 H2 hcx hox
    go_wp2
    go_ret
    exact ⟨rfl, HE7.out⟩
   ·have hcx := hcx.ext HEA.out
    have hcy := hcy.ext HA7.out
    have HCX := hid hcx
    have HCY := hid hcy
    replace HCX := hid (HCX.out.more (S' := fun _ => True) fun _ _ _ => trivial)
    replace HCY := hid (HCY.out.more (S' := fun _ => True) fun _ _ _ => trivial)
    have hm := meet_all HVA.out HD.out HSx.out.1 HSx.out.2 hox hoy left
    clear H1 H2 hox hoy HEA HA7 HVA HD HSx
    obtain ⟨pv1, lv1, ov1, e1, x1, x2, x3⟩ := hcx
    obtain ⟨pv2, lv2, ov2, e2, y1, y2, y3⟩ := hcy
    simp at e1 e2
    obtain ⟨rfl, rfl, rfl, rfl, rfl, rfl, rfl, rfl, rfl, rfl, rfl, rfl⟩ := e1
    obtain ⟨rfl, rfl, rfl, rfl, rfl, rfl, rfl, rfl, rfl, rfl, rfl, rfl⟩ := e2
    clear x1 x2 x3 y1 y2 y3
    obtain ⟨z, T1, T2, hm⟩ := hm
    have HT := hid hm
    clear hm
    go_upto_region 8 with fail
    have HV8 := hid (HV7.out.more (S' := fun q => q < (W7.alloc (.cells #[.int .u8 (cy.kind.toNat : Int), .slice A2 m2 c2, .string cy.key, .int .i64 cy.i, .int .i64 cy.j, .int .i64 cy.n, .int .u8 (cy.v.kind.toNat : Int), .int .i64 cy.v.n, .string cy.v.s, .slice B2 p2 q2, .slice D2 r2 s2, .string cy.s] TCMP)).heap.size) fun k h _ => h)
    clear HV7
    generalize W7.alloc (.cells #[.int .u8 (cy.kind.toNat : Int), .slice A2 m2 c2, .string cy.key, .int .i64 cy.i, .int .i64 cy.j, .int .i64 cy.n, .int .u8 (cy.v.kind.toNat : Int), .int .i64 cy.v.n, .string cy.v.s, .slice B2 p2 q2, .slice D2 r2 s2, .string cy.s] TCMP) = W8 at *
    have HE8 := HE7
    have HVB8 := HVB7
    have HX8 := HX7
    have HY8 := HY
    have HCX8 := HCX
    have HCY8 := HCY
    clear HE7 HVB7 HX7 HY HCX HCY
    obtain ⟨b0, b1, b2, b3, b4⟩ := blk5 HVB8.out
    obtain ⟨x0, x1, x2, x3, x4, x5, x6, x7, x8, x9, x10, x11⟩ := sq12 HX8.out
    obtain ⟨y0, y1, y2, y3, y4, y5, y6, y7, y8, y9, y10, y11⟩ := sq12 HY8.out
    refine H.wp_region_frees [12] [] [0, 1, 2, 3, 4, 5, 6, 7, 8, 9, 10, 11, 12, 13] [14] [15]
     (H.specOf [(2, fun _ _ => FullC [cx]), (7, fun _ _ => SomeC T1), (8, fun _ _ => SomeC ([cx] ++ T1)), (9, OutD W8.heap.size z), (13, BoxQ W8.heap.size)])
     (fun w' => Ext W8 w') ?_ (H.stableC_ext _) (by kernel_rfl) (by intro k hk; simp at hk; subst hk; rfl) (by kernel_rfl) (Keep.drew (Keep.refl _ _)) ?_
    ·exact H.stable_cons (fun n m v w w' h he => h.ext he) (H.stable_cons (fun n m v w w' h he => h.ext he) (H.stable_cons (fun n m v w w' h he => h.ext he) (H.stable_cons (fun n m v w w' h he => h.ext he) (H.stable_cons (fun n m v w w' h he => h.ext he) H.stable_nil))))
    refine H.pure_nil ?_
    iterate 2
     (try simp only [Act.put, sqa, sqb, sqc])
     refine H.growP_run rfl rfl rfl ?_
     apply Exists.intro
     refine ⟨fun w' hC hK => ?_, ?_⟩
     ·have b0 := sqw hC b0
      have b1 := sqw hC b1
      have b2 := sqw hC b2
      have b3 := sqw hC b3
      have b4 := sqw hC b4
      have x0 := sqw hC x0
      have x1 := sqw hC x1
      have x2 := sqw hC x2
      have x3 := sqw hC x3
      have x4 := sqw hC x4
      have x5 := sqw hC x5
      have x6 := sqw hC x6
      have x7 := sqw hC x7
      have x8 := sqw hC x8
      have x9 := sqw hC x9
      have x10 := sqw hC x10
      have x11 := sqw hC x11
      have y0 := sqw hC y0
      have y1 := sqw hC y1
      have y2 := sqw hC y2
      have y3 := sqw hC y3
      have y4 := sqw hC y4
      have y5 := sqw hC y5
      have y6 := sqw hC y6
      have y7 := sqw hC y7
      have y8 := sqw hC y8
      have y9 := sqw hC y9
      have y10 := sqw hC y10
      have y11 := sqw hC y11
      go_simp
      rfl
    (try simp only [Act.put, sqa, sqb, sqc])
    refine H.growP_eff rfl rfl rfl (fun w' hC hK => ?_) (fun v2r8 nv2r8 mv2r8 hv2r8 => ?_)
    ·obtain ⟨pv, lv, ov, e, h1, h2, h3⟩ := HCX8.out.ext hC
     injection e with e
     injection e with e
     simp only [List.cons.injEq, and_true] at e
     obtain ⟨_, rfl, _, _, _, _, _, _, _, rfl, rfl, _⟩ := e
     have hf := full_new h1 h2 h3
     unfold H.growAt
     go_simp
     exact ⟨(Keep.refl _ _).alloc _, hf⟩
    obtain ⟨_, _, adr8, rfl, _⟩ := hv2r8.head
    iterate 4
     (try simp only [Act.put, sqa, sqb, sqc])
     refine H.growP_run rfl rfl rfl ?_
     apply Exists.intro
     refine ⟨fun w' hC hK => ?_, ?_⟩
     ·have b0 := sqw hC b0
      have b1 := sqw hC b1
      have b2 := sqw hC b2
      have b3 := sqw hC b3
      have b4 := sqw hC b4
      have x0 := sqw hC x0
      have x1 := sqw hC x1
      have x2 := sqw hC x2
      have x3 := sqw hC x3
      have x4 := sqw hC x4
      have x5 := sqw hC x5
      have x6 := sqw hC x6
      have x7 := sqw hC x7
      have x8 := sqw hC x8
      have x9 := sqw hC x9
      have x10 := sqw hC x10
      have x11 := sqw hC x11
      have y0 := sqw hC y0
      have y1 := sqw hC y1
      have y2 := sqw hC y2
      have y3 := sqw hC y3
      have y4 := sqw hC y4
      have y5 := sqw hC y5
      have y6 := sqw hC y6
      have y7 := sqw hC y7
      have y8 := sqw hC y8
      have y9 := sqw hC y9
      have y10 := sqw hC y10
      have y11 := sqw hC y11
      go_simp
      rfl
    (try simp only [Act.put, sqa, sqb, sqc])
    refine H.growP_eff rfl rfl rfl (fun w' hC hK => ?_) (fun v5r8 nv5r8 mv5r8 hv5r8 => ?_)
    ·have hcall := HT.out.t1 _ _ _ _ _ (HCY8.out.ext hC) (HCX8.out.ext hC)
     unfold H.growAt
     go_simp
     exact H.grow_call hcall
    obtain ⟨_, _, h5⟩ := hv5r8.head
    obtain ⟨A5r8, c5r8, rfl, _⟩ := Sl.shape h5
    clear h5
    (try simp only [Act.put, sqa, sqb, sqc])
    refine H.growP_eff rfl rfl rfl (fun w' hC hK => ?_) (fun v6r8 nv6r8 mv6r8 hv6r8 => ?_)
    ·have hfu : FullC [cx] (.slice (some adr8) 1 1) w' := hK.get (i := 2) (List.mem_cons_of_mem _ List.mem_cons_self) (by kernel_rfl)
     have hso : SomeC T1 (.slice A5r8 T1.length c5r8) w' := hK.get (i := 7) List.mem_cons_self (by kernel_rfl)
     obtain ⟨v', w6, hr, hs6, hE6⟩ := full_cat hfu hso HT.out.l1
     unfold H.growAt
     rw [exec_append (v' := v') (w' := w6) rfl rfl rfl hr]
     exact ⟨hE6, hs6⟩
    obtain ⟨_, _, h6⟩ := hv6r8.head
    obtain ⟨A6r8, c6r8, rfl, _⟩ := Sl.shape h6
    clear h6
    (try simp only [Act.put, sqa, sqb, sqc])
    refine H.growP_eff rfl rfl rfl (fun w' hC hK => ?_) (fun v7r8 nv7r8 mv7r8 hv7r8 => ?_)
    ·have hs6 : SomeC ([cx] ++ T1) _ w' := hK.get (i := 8) List.mem_cons_self (by kernel_rfl)
     have hcall := (done7_ok w0 w' (HW0.out.ext (HE8.out.ext hC)) _ _ _ _ _ _ _ (HV8.out.ext hC) hs6 HT.out.one).mono fun e w'' h => h.out hC.size (fun q h => h)
     unfold H.growAt
     go_simp
     exact H.grow_call hcall
    obtain ⟨_, _, _, Az1r8, cz1r8, Az2r8, cz2r8, rfl, _⟩ := hv7r8.head
    iterate 3
     (try simp only [Act.put, sqa, sqb, sqc])
     refine H.growP_run rfl rfl rfl ?_
     apply Exists.intro
     refine ⟨fun w' hC hK => ?_, ?_⟩
     ·go_simp
      rfl
    (try simp only [Act.put, sqa, sqb, sqc])
    refine H.growP_eff rfl rfl rfl (fun w' hC hK => ?_) (fun v11r8 nv11r8 mv11r8 hv11r8 => ?_)
    ·unfold H.growAt
     go_simp
     exact ⟨(Keep.refl _ _).alloc _, hC.size, rfl, by simp, Blk.new _ _ _⟩
    obtain ⟨_, _, hn, rfl, hnm, _⟩ := hv11r8.head
    refine H.growP_nil fun wz hC hK => ?_
    have hbox : BoxQ W8.heap.size nv11r8 mv11r8 (.pointer (some ⟨nv11r8, 0, none⟩)) wz := (hK.1 (13, _) List.mem_cons_self).1
    have hout : OutD W8.heap.size z nv7r8 mv7r8 (.tuple #[.agg #[U8 z.kind, .int .i64 z.n, .string z.s, .slice Az1r8 z.l.length cz1r8, .slice Az2r8 z.o.length cz2r8], .bool true]) wz := (hK.1 (9, _) (List.mem_cons_of_mem _ List.mem_cons_self)).1
    have hap : mv11r8 ≤ nv7r8 ∨ mv7r8 ≤ nv11r8 := hK.2 (13, _) List.mem_cons_self (9, _) (List.mem_cons_of_mem _ List.mem_cons_self) (by simp)
    obtain ⟨bq0, bq1, bq2, bq3, bq4⟩ := blk5 hbox.2.2.2
    obtain ⟨bf0, bf1, bf2, bf3, bf4⟩ := sqf5 hbox.2.2.2
    have HF := hid (OutD.fill hC hbox hout hap)
    clear hbox hout hap hK hn hnm b0 b1 b2 b3 b4 x0 x1 x2 x3 x4 x5 x6 x7 x8 x9 x10 x11 y0 y1 y2 y3 y4 y5 y6 y7 y8 y9 y10 y11 hv2r8 hv5r8 hv6r8 hv7r8 hv11r8 hC
    change wpList _ _ _ (_ :: []) _ _
    (try simp only [Act.put, sqa, sqb, sqc])
    go_wp2_with fail
    refine H.Then.normal ?_
    iterate 1
     (try simp only [Act.put, sqa, sqb, sqc])
     refine H.pure_run rfl rfl ?_
     apply Exists.intro
     refine ⟨fun w' => ?_, ?_⟩
     ·go_simp
      rfl
    refine H.pure_nil ?_
    refine NoPanic.normal ?_
    (try simp only [Act.put, sqa, sqb, sqc])
    obtain ⟨hEz, hBz, hVz⟩ := HF.out
    clear HF bq0 bq1 bq2 bq3 bq4 bf0 bf1 bf2 bf3 bf4
    change Exit.then _ _ Exit.normal _ (fillW wz nv11r8 (U8 z.kind) (.int .i64 z.n) (.string z.s) (.slice Az1r8 z.l.length cz1r8) (.slice Az2r8 z.o.length cz2r8))
    generalize (fillW wz nv11r8 (U8 z.kind) (.int .i64 z.n) (.string z.s) (.slice Az1r8 z.l.length cz1r8) (.slice Az2r8 z.o.length cz2r8)) = W9 at *
    have HR8 := hid (show Blk W9 nv11r8 TVAL #[U8 z.kind, .int .i64 z.n, .string z.s, .slice Az1r8 z.l.length cz1r8, .slice Az2r8 z.o.length cz2r8] from hBz)
    have HP8 := hid (show VAt W9 (fun _ => True) (.agg #[U8 z.kind, .int .i64 z.n, .string z.s, .slice Az1r8 z.l.length cz1r8, .slice Az2r8 z.o.length cz2r8]) z from hVz)
    have HE9 := hid (HE8.out.ext hEz)
    have HV9 := hid ((HV8.out.ext hEz).more (S' := fun q => q < W9.heap.size) fun k h _ => h)
    have HVB9 := hid (HVB8.out.keep hEz id)
    have HX9 := hid (HX8.out.keep hEz id)
    have HY9 := hid (HY8.out.keep hEz id)
    have HCX9 := hid (HCX8.out.ext hEz)
    have HCY9 := hid (HCY8.out.ext hEz)
    clear hEz hBz hVz HE8 HV8 HVB8 HX8 HY8 HCX8 HCY8
    go_upto_region 9 with fail
    obtain ⟨b0, b1, b2, b3, b4⟩ := blk5 HVB9.out
    obtain ⟨x0, x1, x2, x3, x4, x5, x6, x7, x8, x9, x10, x11⟩ := sq12 HX9.out
    obtain ⟨y0, y1, y2, y3, y4, y5, y6, y7, y8, y9, y10, y11⟩ := sq12 HY9.out
    refine H.wp_region_frees [11] [] [0, 1, 2, 3, 4, 5, 6, 7, 8, 9, 10, 11, 12] [13] [14]
     (H.specOf [(2, fun _ _ => FullC [cy]), (6, fun _ _ => SomeC T2), (7, fun _ _ => SomeC ([cy] ++ T2)), (8, OutD W9.heap.size z), (12, BoxQ W9.heap.size)])
     (fun w' => Ext W9 w') ?_ (H.stableC_ext _) (by kernel_rfl) (by intro k hk; simp at hk; subst hk; rfl) (by kernel_rfl) (Keep.drew (Keep.refl _ _)) ?_
    ·exact H.stable_cons (fun n m v w w' h he => h.ext he) (H.stable_cons (fun n m v w w' h he => h.ext he) (H.stable_cons (fun n m v w w' h he => h.ext he) (H.stable_cons (fun n m v w w' h he => h.ext he) (H.stable_cons (fun n m v w w' h he => h.ext he) H.stable_nil))))
    refine H.pure_nil ?_
    iterate 2
     (try simp only [Act.put, sqa, sqb, sqc])
     refine H.growP_run rfl rfl rfl ?_
     apply Exists.intro
     refine ⟨fun w' hC hK => ?_, ?_⟩
     ·have b0 := sqw hC b0
      have b1 := sqw hC b1
      have b2 := sqw hC b2
      have b3 := sqw hC b3
      have b4 := sqw hC b4
      have x0 := sqw hC x0
      have x1 := sqw hC x1
      have x2 := sqw hC x2
      have x3 := sqw hC x3
      have x4 := sqw hC x4
      have x5 := sqw hC x5
      have x6 := sqw hC x6
      have x7 := sqw hC x7
      have x8 := sqw hC x8
      have x9 := sqw hC x9
      have x10 := sqw hC x10
      have x11 := sqw hC x11
      have y0 := sqw hC y0
      have y1 := sqw hC y1
      have y2 := sqw hC y2
      have y3 := sqw hC y3
      have y4 := sqw hC y4
      have y5 := sqw hC y5
      have y6 := sqw hC y6
      have y7 := sqw hC y7
      have y8 := sqw hC y8
      have y9 := sqw hC y9
      have y10 := sqw hC y10
      have y11 := sqw hC y11
      go_simp
      rfl
    (try simp only [Act.put, sqa, sqb, sqc])
    refine H.growP_eff rfl rfl rfl (fun w' hC hK => ?_) (fun v2r9 nv2r9 mv2r9 hv2r9 => ?_)
    ·obtain ⟨pv, lv, ov, e, h1, h2, h3⟩ := HCY9.out.ext hC
     injection e with e
     injection e with e
     simp only [List.cons.injEq, and_true] at e
     obtain ⟨_, rfl, _, _, _, _, _, _, _, rfl, rfl, _⟩ := e
     have hf := full_new h1 h2 h3
     unfold H.growAt
     go_simp
     exact ⟨(Keep.refl _ _).alloc _, hf⟩
    obtain ⟨_, _, adr9, rfl, _⟩ := hv2r9.head
    iterate 3
     (try simp only [Act.put, sqa, sqb, sqc])
     refine H.growP_run rfl rfl rfl ?_
     apply Exists.intro
     refine ⟨fun w' hC hK => ?_, ?_⟩
     ·have b0 := sqw hC b0
      have b1 := sqw hC b1
      have b2 := sqw hC b2
      have b3 := sqw hC b3
      have b4 := sqw hC b4
      have x0 := sqw hC x0
      have x1 := sqw hC x1
      have x2 := sqw hC x2
      have x3 := sqw hC x3
      have x4 := sqw hC x4
      have x5 := sqw hC x5
      have x6 := sqw hC x6
      have x7 := sqw hC x7
      have x8 := sqw hC x8
      have x9 := sqw hC x9
      have x10 := sqw hC x10
      have x11 := sqw hC x11
      have y0 := sqw hC y0
      have y1 := sqw hC y1
      have y2 := sqw hC y2
      have y3 := sqw hC y3
      have y4 := sqw hC y4
      have y5 := sqw hC y5
      have y6 := sqw hC y6
      have y7 := sqw hC y7
      have y8 := sqw hC y8
      have y9 := sqw hC y9
      have y10 := sqw hC y10
      have y11 := sqw hC y11
      go_simp
      rfl
    (try simp only [Act.put, sqa, sqb, sqc])
    refine H.growP_eff rfl rfl rfl (fun w' hC hK => ?_) (fun v5r9 nv5r9 mv5r9 hv5r9 => ?_)
    ·have hcall := HT.out.t2 _ _ _ _ _ (HCX9.out.ext hC) (HCY9.out.ext hC)
     unfold H.growAt
     go_simp
     exact H.grow_call hcall
    obtain ⟨_, _, h5⟩ := hv5r9.head
    obtain ⟨A5r9, c5r9, rfl, _⟩ := Sl.shape h5
    clear h5
    (try simp only [Act.put, sqa, sqb, sqc])
    refine H.growP_eff rfl rfl rfl (fun w' hC hK => ?_) (fun v6r9 nv6r9 mv6r9 hv6r9 => ?_)
    ·have hfu : FullC [cy] (.slice (some adr9) 1 1) w' := hK.get (i := 2) (List.mem_cons_of_mem _ List.mem_cons_self) (by kernel_rfl)
     have hso : SomeC T2 (.slice A5r9 T2.length c5r9) w' := hK.get (i := 6) List.mem_cons_self (by kernel_rfl)
     obtain ⟨v', w6, hr, hs6, hE6⟩ := full_cat hfu hso HT.out.l2
     unfold H.growAt
     rw [exec_append (v' := v') (w' := w6) rfl rfl rfl hr]
     exact ⟨hE6, hs6⟩
    obtain ⟨_, _, h6⟩ := hv6r9.head
    obtain ⟨A6r9, c6r9, rfl, _⟩ := Sl.shape h6
    clear h6
    (try simp only [Act.put, sqa, sqb, sqc])
    refine H.growP_eff rfl rfl rfl (fun w' hC hK => ?_) (fun v7r9 nv7r9 mv7r9 hv7r9 => ?_)
    ·have hs6 : SomeC ([cy] ++ T2) _ w' := hK.get (i := 7) List.mem_cons_self (by kernel_rfl)
     have hcall := (done7_ok w0 w' (HW0.out.ext (HE9.out.ext hC)) _ _ _ _ _ _ _ (HV9.out.ext hC) hs6 HT.out.two).mono fun e w'' h => h.out hC.size (fun q h => h)
     unfold H.growAt
     go_simp
     exact H.grow_call hcall
    obtain ⟨_, _, _, Az1r9, cz1r9, Az2r9, cz2r9, rfl, _⟩ := hv7r9.head
    iterate 3
     (try simp only [Act.put, sqa, sqb, sqc])
     refine H.growP_run rfl rfl rfl ?_
     apply Exists.intro
     refine ⟨fun w' hC hK => ?_, ?_⟩
     ·go_simp
      rfl
    (try simp only [Act.put, sqa, sqb, sqc])
    refine H.growP_eff rfl rfl rfl (fun w' hC hK => ?_) (fun v11r9 nv11r9 mv11r9 hv11r9 => ?_)
    ·unfold H.growAt
     go_simp
     exact ⟨(Keep.refl _ _).alloc _, hC.size, rfl, by simp, Blk.new _ _ _⟩
    obtain ⟨_, _, hn, rfl, hnm, _⟩ := hv11r9.head
    refine H.growP_nil fun wz hC hK => ?_
    have hbox : BoxQ W9.heap.size nv11r9 mv11r9 (.pointer (some ⟨nv11r9, 0, none⟩)) wz := (hK.1 (12, _) List.mem_cons_self).1
    have hout : OutD W9.heap.size z nv7r9 mv7r9 (.tuple #[.agg #[U8 z.kind, .int .i64 z.n, .string z.s, .slice Az1r9 z.l.length cz1r9, .slice Az2r9 z.o.length cz2r9], .bool true]) wz := (hK.1 (8, _) (List.mem_cons_of_mem _ List.mem_cons_self)).1
    have hap : mv11r9 ≤ nv7r9 ∨ mv7r9 ≤ nv11r9 := hK.2 (12, _) List.mem_cons_self (8, _) (List.mem_cons_of_mem _ List.mem_cons_self) (by simp)
    obtain ⟨bq0, bq1, bq2, bq3, bq4⟩ := blk5 hbox.2.2.2
    obtain ⟨bf0, bf1, bf2, bf3, bf4⟩ := sqf5 hbox.2.2.2
    have HF := hid (OutD.fill hC hbox hout hap)
    clear hbox hout hap hK hn hnm b0 b1 b2 b3 b4 x0 x1 x2 x3 x4 x5 x6 x7 x8 x9 x10 x11 y0 y1 y2 y3 y4 y5 y6 y7 y8 y9 y10 y11 hv2r9 hv5r9 hv6r9 hv7r9 hv11r9 hC
    change wpList _ _ _ (_ :: []) _ _
    (try simp only [Act.put, sqa, sqb, sqc])
    go_wp2_with fail
    refine H.Then.normal ?_
    iterate 1
     (try simp only [Act.put, sqa, sqb, sqc])
     refine H.pure_run rfl rfl ?_
     apply Exists.intro
     refine ⟨fun w' => ?_, ?_⟩
     ·go_simp
      rfl
    refine H.pure_nil ?_
    refine NoPanic.normal ?_
    (try simp only [Act.put, sqa, sqb, sqc])
    obtain ⟨hEz, hBz, hVz⟩ := HF.out
    clear HF bq0 bq1 bq2 bq3 bq4 bf0 bf1 bf2 bf3 bf4
    change Exit.then _ _ Exit.normal _ (fillW wz nv11r9 (U8 z.kind) (.int .i64 z.n) (.string z.s) (.slice Az1r9 z.l.length cz1r9) (.slice Az2r9 z.o.length cz2r9))
    generalize (fillW wz nv11r9 (U8 z.kind) (.int .i64 z.n) (.string z.s) (.slice Az1r9 z.l.length cz1r9) (.slice Az2r9 z.o.length cz2r9)) = W10 at *
    have HR9 := hid (show Blk W10 nv11r9 TVAL #[U8 z.kind, .int .i64 z.n, .string z.s, .slice Az1r9 z.l.length cz1r9, .slice Az2r9 z.o.length cz2r9] from hBz)
    have HP9 := hid (show VAt W10 (fun _ => True) (.agg #[U8 z.kind, .int .i64 z.n, .string z.s, .slice Az1r9 z.l.length cz1r9, .slice Az2r9 z.o.length cz2r9]) z from hVz)
    have HE10 := hid (HE9.out.ext hEz)
    have HV10 := hid ((HV9.out.ext hEz).more (S' := fun q => q < W10.heap.size) fun k h _ => h)
    have HVB10 := hid (HVB9.out.keep hEz id)
    have HX10 := hid (HX9.out.keep hEz id)
    have HY10 := hid (HY9.out.keep hEz id)
    have HCX10 := hid (HCX9.out.ext hEz)
    have HCY10 := hid (HCY9.out.ext hEz)
    replace HR8 := hid (HR8.out.keep hEz id)
    replace HP8 := hid (HP8.out.ext hEz)
    clear hEz hBz hVz HE9 HV9 HVB9 HX9 HY9 HCX9 HCY9
    obtain ⟨rc0, rc1, rc2, rc3, rc4⟩ := blk5 HR8.out
    obtain ⟨sc0, sc1, sc2, sc3, sc4⟩ := blk5 HR9.out
    go_wp2_with fail
    refine (same_eq _ z (Nat.le_refl _) _ _ _ _ _ HP8.out HP9.out).mono ?_
    rintro e w11 ⟨rfl, hEs⟩
    have HE11 := hid (HE10.out.ext hEs)
    clear hEs HE10 HV10 HVB10 HX10 HY10 HCX10 HCY10 HR8 HR9 HP8 HP9
    go_wp2
    go_ret
    exact ⟨rfl, HE11.out⟩
end Go.Proofs.YtioplgfopillnaaDoor
namespace Go.Proofs.YtioplgfopillnaaDoor
open Go.ChangeShapes Go.WideShapes Go.ChangeAt Go.RowKit Go.Deep
theorem dec_laid7 {w0 : World} {l : List (String × DataW Unit)} (h : laidMetH Tryd.prog l w0) (hp : l = [("unicode/utf8.acceptRanges", Rows.laid_unicode_utf8_acceptRanges), ("unicode/utf8.first", Rows.laid_unicode_utf8_first)]) : DecAny w0 := by
 subst hp
 rw [MakeChecks.laidMetH_plain _ _ _ (by kernel_rfl)] at h
 have e1 : (Rows.laid_unicode_utf8_first : DataW Unit) = Lib.firstData := by kernel_rfl
 have e2 : (Rows.laid_unicode_utf8_acceptRanges : DataW Unit) = Lib.acceptData := by kernel_rfl
 have h3 : Lib.VarReads Tryd.prog w0 "unicode/utf8.first" Lib.firstData := by rw [← e1]; exact Lib.laidMet.reads h (.tail _ (.head _))
 have h4 : Lib.VarReads Tryd.prog w0 "unicode/utf8.acceptRanges" Lib.acceptData := by rw [← e2]; exact Lib.laidMet.reads h (.head _)
 exact dec_any (utf8Tabs_of_readsT { Tryd.laysDR with } ⟨by kernel_rfl, by kernel_rfl, by kernel_rfl, by kernel_rfl, by kernel_rfl, by kernel_rfl, by kernel_rfl⟩ h3 h4)
theorem meets07_lift {Q : Prop} (lv : Value) (l : List Tk) (cs : Array Value) (a : Ac) (ds : Array Value) (b : Ac) (left : Bool) (w : World) (h0 : Sl ETok w (fun k => k < w.heap.size) lv l) (q0 : Q) (h1 : EAc.rd w (fun k => k < w.heap.size) cs.toList a) (q1 : Wf a) (h2 : EAc.rd w (fun k => k < w.heap.size) ds.toList b) (q2 : Wf b) (hT : ValAny w ∧ DecAny w) :
  Calls Tryd.prog 5 #[lv, .agg cs, .agg ds, .bool left] w fun e w' => e = .returned (.bool true) ∧ Below w.heap.size w w' := by
 obtain ⟨p1, v1, e1, a1, a2⟩ := h1
 obtain ⟨p2, v2, e2, b1, b2⟩ := h2
 exact (meets07_ok w w hT.1 hT.2 (Keep.refl _ _) _ _ _ lv _ _ l a b left h0 ⟨p1, v1, by rw [← Array.toArray_toList (xs := cs), e1], a1, a2⟩ ⟨p2, v2, by rw [← Array.toArray_toList (xs := ds), e2], b1, b2⟩ q1 q2).mono fun e w' h => ⟨h.1, h.2.toBelow⟩
end Go.Proofs.YtioplgfopillnaaDoor
