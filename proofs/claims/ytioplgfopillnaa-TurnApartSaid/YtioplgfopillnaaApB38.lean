/- TurnN, Open, OpenEl: laid together. -/
import Derived.Test.YtioplgfopillnaaApB35
import Derived.Test.YtioplgfopillnaaApB37
import Derived.Test.YtioplgfopillnaaApB1
import Derived.OpenShut
import Derived.ProofKit
import Derived.ChangeOld
import Derived.Deep.Slices
import Derived.Deep.Fields
import Derived.ChangeArms
/- The walk of TurnApart. -/
set_option linter.unusedSimpArgs false
set_option linter.unusedVariables false
namespace Go.Proofs.Ytioplgfopillnaa
open Go.RowKit
set_option linter.unusedVariables false

theorem One6Is.form {v : V} {w w' : World} {e : Ending} (h : One6Is v w e w') : ∃ (k1 : Int) (A1 : Option Addr) (m1 c1 : Nat) (key1 : ByteArray) (i1 j1 n1 vk1 vn1 : Int) (vs1 : ByteArray) (B1 : Option Addr) (p1 q1 : Nat) (D1 : Option Addr) (r1 s1 : Nat) (t1 : ByteArray) (o : Int), e = .returned (.tuple #[.agg #[.int .u8 k1, .slice A1 m1 c1, .string key1, .int .i64 i1, .int .i64 j1, .int .i64 n1, .int .u8 vk1, .int .i64 vn1, .string vs1, .slice B1 p1 q1, .slice D1 r1 s1, .string t1], .int .i64 o]) ∧ (o = 0 ∨ (o = 1 ∧ ∃ c, CAt w' (fun q => w.heap.size ≤ q) (.agg #[.int .u8 k1, .slice A1 m1 c1, .string key1, .int .i64 i1, .int .i64 j1, .int .i64 n1, .int .u8 vk1, .int .i64 vn1, .string vs1, .slice B1 p1 q1, .slice D1 r1 s1, .string t1]) c ∧ OneOk v c)) ∧ Ext w w' := by
  obtain ⟨u, n, rfl, ⟨rfl, k1, A1, m1, c1, key1, i1, j1, n1, vk1, vn1, vs1, B1, p1, q1, D1, r1, s1, t1, rfl⟩ | ⟨rfl, c, hc, ho⟩, hE⟩ := h
  · exact ⟨_, _, _, _, _, _, _, _, _, _, _, _, _, _, _, _, _, _, 0, rfl, .inl rfl, hE⟩
  · obtain ⟨pv, lv, ov, rfl, h1, h2, h3⟩ := hc
    obtain ⟨A, cp, rfl, _⟩ := h1.shape
    obtain ⟨B, cl, rfl, _⟩ := h2.shape
    obtain ⟨D, co, rfl, _⟩ := h3.shape
    exact ⟨_, _, _, _, _, _, _, _, _, _, _, _, _, _, _, _, _, _, 1, rfl, .inr ⟨rfl, c, ⟨_, _, _, rfl, h1, h2, h3⟩, ho⟩, hE⟩
theorem OneOk.small {v : V} {c : Cp} (h : OneOk v c) : c.path.length ≤ 1000 ∧ c.v.size ≤ 1000000 := by
  obtain ⟨x, _, h5, _, h⟩ := h
  refine ⟨by omega, ?_⟩
  rcases h with ⟨_, n, _, h⟩ | ⟨_, k, i, n, s, _, h⟩ | ⟨_, k, i, j, y, _, _, h', h⟩ | ⟨_, k, key, y, _, _, h', h⟩
  · rw [h]; show ZV.size ≤ 1000000; have := ZV.size_ok; omega
  · rw [h]; show ZV.size ≤ 1000000; have := ZV.size_ok; omega
  · rw [h]; show y.size ≤ 1000000; omega
  · rw [h]; show y.size ≤ 1000000; omega
abbrev Wf (a : Ac) : Prop := (Lit.int .i64 a.i).wf = true ∧ (Lit.int .i64 a.j).wf = true ∧ (Lit.int .i64 a.n).wf = true
set_option maxRecDepth 20000 in
set_option maxHeartbeats 6400000 in
theorem apart07_ok (w : World) (S S1 S2 : BS) (lv av bv : Value) (l : List Tk) (a b : Ac) (left : Bool) (hl : Sl ETok w S lv l) (ha : AAt w S1 av a) (hb : AAt w S2 bv b) (hwa : Wf a) (hwb : Wf b) :
    Calls Try.prog 3 #[lv, av, bv, .bool left] w fun e w' => e = .returned (.bool true) ∧ Ext w w' := by
  obtain ⟨A, c, rfl, hlc, hcm⟩ := hl.shape
  obtain ⟨p1, v1, rfl, a1, a2⟩ := ha
  obtain ⟨p2, v2, rfl, b1, b2⟩ := hb
  obtain ⟨Aa, ca, rfl, _⟩ := a1.shape
  obtain ⟨Av, cv, rfl, _⟩ := a2.shape
  obtain ⟨Ba, da, rfl, _⟩ := b1.shape
  obtain ⟨Bv, dv, rfl, _⟩ := b2.shape
  obtain ⟨W, hW⟩ : ∃ W, (w.alloc (.cells (acCells a (.slice Aa a.path.length ca) (.slice Av a.v.length cv)) TACT)).alloc (.cells (acCells b (.slice Ba b.path.length da) (.slice Bv b.v.length dv)) TACT) = W := ⟨_, rfl⟩
  have hE : Ext w W := by rw [← hW]; exact ((Keep.refl _ _).alloc _).alloc _
  have hba : Blk W w.heap.size TACT (acCells a (.slice Aa a.path.length ca) (.slice Av a.v.length cv)) := by rw [← hW]; exact (Blk.new _ _ _).alloc _
  have hbb : Blk W (w.heap.size + 1) TACT (acCells b (.slice Ba b.path.length da) (.slice Bv b.v.length dv)) := by
    have := Blk.new (w.alloc (.cells (acCells a (.slice Aa a.path.length ca) (.slice Av a.v.length cv)) TACT)) TACT (acCells b (.slice Ba b.path.length da) (.slice Bv b.v.length dv))
    rw [World.size_alloc, hW] at this
    exact this
  have HL := hid (hl.ext ETok.ok hE)
  have HA := hid (show AAt W S1 (.agg (acCells a (.slice Aa a.path.length ca) (.slice Av a.v.length cv))) a from ⟨_, _, rfl, a1.ext EU8.ok hE, a2.ext ETok.ok hE⟩)
  have HB := hid (show AAt W S2 (.agg (acCells b (.slice Ba b.path.length da) (.slice Bv b.v.length dv))) b from ⟨_, _, rfl, b1.ext EU8.ok hE, b2.ext ETok.ok hE⟩)
  have HE := hid hE
  have HBA := hid hba
  have HBB := hid hbb
  have HWA := hid hwa
  have HWB := hid hwb
  have x0 := hba.cell 0
  have x1 := hba.cell 1
  have x2 := hba.cell 2
  have x3 := hba.cell 3
  have x4 := hba.cell 4
  have x5 := hba.cell 5
  have x6 := hba.cell 6
  simp at x0 x1 x2 x3 x4 x5 x6
  have y0 := hbb.cell 0
  have y1 := hbb.cell 1
  have y2 := hbb.cell 2
  have y3 := hbb.cell 3
  have y4 := hbb.cell 4
  have y5 := hbb.cell 5
  have y6 := hbb.cell 6
  simp at y0 y1 y2 y3 y4 y5 y6
  clear hl a1 a2 b1 b2 hE hba hbb hwa hwb hlc hcm
  go_enter Try.func3, Try.ntmps3
  go_wp2_with fail
  refine (heavy7_any W _ _ _ _ _ _ l a b HL.out HA.out HB.out).mono ?_
  rintro e W1 ⟨bb, rfl, hE1⟩
  clear hW
  cases bb with
  | true =>
    have HE1 := hid (HE.out.ext hE1)
    clear hE1
    go_wp2_with fail
    refine (known07_ok W1).mono ?_
    rintro e W2 ⟨rfl, hE2⟩
    go_wp2
    go_ret
    exact ⟨rfl, HE1.out.ext hE2⟩
  | false =>
    have HE1 := hid (HE.out.ext hE1)
    have HL1 := hid (HL.out.ext ETok.ok hE1)
    have HA1 := hid (HA.out.ext hE1)
    have HB1 := hid (HB.out.ext hE1)
    have HBA1 := hid (HBA.out.keep hE1 id)
    have HBB1 := hid (HBB.out.keep hE1 id)
    clear hE1 HL HA HB HBA HBB HE
    go_wp2_with fail
    refine (known07_ok W1).mono ?_
    rintro e W2 ⟨rfl, hE2⟩
    have HE2 := hid (HE1.out.ext hE2)
    have HL2 := hid (HL1.out.ext ETok.ok hE2)
    have HA2 := hid (HA1.out.ext hE2)
    have HB2 := hid (HB1.out.ext hE2)
    have HBA2 := hid (HBA1.out.keep hE2 id)
    have HBB2 := hid (HBB1.out.keep hE2 id)
    clear hE2 HL1 HA1 HB1 HBA1 HBB1 HE1 x0 x1 x2 x3 x4 x5 x6 y0 y1 y2 y3 y4 y5 y6
    go_wp2_with fail
    refine (build_ok _ _ _ _ HL2.out).mono ?_
    rintro e W3 ⟨u, x, rfl, hsv, hsz, ⟨lx, ox, rfl, hlx, hox⟩, hE3⟩
    obtain ⟨Ax1, cx1, rfl, _⟩ := hlx.shape
    obtain ⟨Ax2, cx2, rfl, _⟩ := hox.shape
    have hA : Ext W3 (W3.alloc (.cells #[U8 x.kind, .int .i64 x.n, .string x.s, .slice Ax1 x.l.length cx1, .slice Ax2 x.o.length cx2] TVAL)) := (Keep.refl _ _).alloc _
    have HSx := hid (And.intro hsv hsz)
    have HE3 := hid (HE2.out.ext (hE3.ext hA))
    have HA3 := hid (HA2.out.ext (hE3.ext hA))
    have HB3 := hid (HB2.out.ext (hE3.ext hA))
    have HBA3 := hid (HBA2.out.keep (hE3.ext hA) id)
    have HBB3 := hid (HBB2.out.keep (hE3.ext hA) id)
    have HVB := hid (Blk.new W3 TVAL #[U8 x.kind, .int .i64 x.n, .string x.s, .slice Ax1 x.l.length cx1, .slice Ax2 x.o.length cx2])
    have HVx := hid (show VAt (W3.alloc (.cells #[U8 x.kind, .int .i64 x.n, .string x.s, .slice Ax1 x.l.length cx1, .slice Ax2 x.o.length cx2] TVAL)) (fun _ => True) (.agg #[U8 x.kind, .int .i64 x.n, .string x.s, .slice Ax1 x.l.length cx1, .slice Ax2 x.o.length cx2]) x from (VAt.ext ⟨_, _, rfl, hlx, hox⟩ hA).more fun _ _ _ => trivial)
    clear hsv hsz hlx hox hE3 hA HL2 HA2 HB2 HBA2 HBB2 HE2
    have v0 := HVB.out.cell 0
    have v1 := HVB.out.cell 1
    have v2 := HVB.out.cell 2
    have v3 := HVB.out.cell 3
    have v4 := HVB.out.cell 4
    simp at v0 v1 v2 v3 v4
    have x0 := HBA3.out.cell 0
    have x1 := HBA3.out.cell 1
    have x2 := HBA3.out.cell 2
    have x3 := HBA3.out.cell 3
    have x4 := HBA3.out.cell 4
    have x5 := HBA3.out.cell 5
    have x6 := HBA3.out.cell 6
    simp at x0 x1 x2 x3 x4 x5 x6
    have y0 := HBB3.out.cell 0
    have y1 := HBB3.out.cell 1
    have y2 := HBB3.out.cell 2
    have y3 := HBB3.out.cell 3
    have y4 := HBB3.out.cell 4
    have y5 := HBB3.out.cell 5
    have y6 := HBB3.out.cell 6
    simp at y0 y1 y2 y3 y4 y5 y6
    go_wp2_with fail
    generalize W3.alloc (.cells #[U8 x.kind, .int .i64 x.n, .string x.s, .slice Ax1 x.l.length cx1, .slice Ax2 x.o.length cx2] TVAL) = W4 at *
    refine (one6_ok W4 _ _ _ _ x a HVx.out HSx.out.1 HSx.out.2 HA3.out HWA.out.1 HWA.out.2.1 HWA.out.2.2).mono ?_
    intro e W5 h
    obtain ⟨k1, A1, m1, c1, key1, i1, j1, n1, vk1, vn1, vs1, B1, p1, q1, D1, r1, s1, t1, o1, rfl, h1, hE5⟩ := h.form
    have hA : Ext W5 (W5.alloc (.cells #[.int .u8 k1, .slice A1 m1 c1, .string key1, .int .i64 i1, .int .i64 j1, .int .i64 n1, .int .u8 vk1, .int .i64 vn1, .string vs1, .slice B1 p1 q1, .slice D1 r1 s1, .string t1] TCMP)) := (Keep.refl _ _).alloc _
    have HX := hid (Blk.new W5 TCMP #[.int .u8 k1, .slice A1 m1 c1, .string key1, .int .i64 i1, .int .i64 j1, .int .i64 n1, .int .u8 vk1, .int .i64 vn1, .string vs1, .slice B1 p1 q1, .slice D1 r1 s1, .string t1])
    have HE5 := hid (HE3.out.ext (hE5.ext hA))
    have HB5 := hid (HB3.out.ext (hE5.ext hA))
    have HBB5 := hid (HBB3.out.keep (hE5.ext hA) id)
    have HVB5 := hid (HVB.out.keep (hE5.ext hA) id)
    have HV5 := hid (HVx.out.ext (hE5.ext hA))
    have H1 : Hid (o1 = 0 ∨ (o1 = 1 ∧ ∃ c, CAt (W5.alloc (.cells #[.int .u8 k1, .slice A1 m1 c1, .string key1, .int .i64 i1, .int .i64 j1, .int .i64 n1, .int .u8 vk1, .int .i64 vn1, .string vs1, .slice B1 p1 q1, .slice D1 r1 s1, .string t1] TCMP)) (fun q => W4.heap.size ≤ q) (.agg #[.int .u8 k1, .slice A1 m1 c1, .string key1, .int .i64 i1, .int .i64 j1, .int .i64 n1, .int .u8 vk1, .int .i64 vn1, .string vs1, .slice B1 p1 q1, .slice D1 r1 s1, .string t1]) c ∧ OneOk x c)) := hid (by
      rcases h1 with h1 | ⟨h1, c, hc, ho⟩
      · exact .inl h1
      · exact .inr ⟨h1, c, hc.ext hA, ho⟩)
    clear h h1 hE5 hA HA3 HB3 HBA3 HBB3 HE3 HVB HVx v0 v1 v2 v3 v4 x0 x1 x2 x3 x4 x5 x6 y0 y1 y2 y3 y4 y5 y6
    have v0 := HVB5.out.cell 0
    have v1 := HVB5.out.cell 1
    have v2 := HVB5.out.cell 2
    have v3 := HVB5.out.cell 3
    have v4 := HVB5.out.cell 4
    simp at v0 v1 v2 v3 v4
    have y0 := HBB5.out.cell 0
    have y1 := HBB5.out.cell 1
    have y2 := HBB5.out.cell 2
    have y3 := HBB5.out.cell 3
    have y4 := HBB5.out.cell 4
    have y5 := HBB5.out.cell 5
    have y6 := HBB5.out.cell 6
    simp at y0 y1 y2 y3 y4 y5 y6
    go_wp2_with fail
    generalize W5.alloc (.cells #[.int .u8 k1, .slice A1 m1 c1, .string key1, .int .i64 i1, .int .i64 j1, .int .i64 n1, .int .u8 vk1, .int .i64 vn1, .string vs1, .slice B1 p1 q1, .slice D1 r1 s1, .string t1] TCMP) = W6 at *
    refine (one6_ok W6 _ _ _ _ x b HV5.out HSx.out.1 HSx.out.2 HB5.out HWB.out.1 HWB.out.2.1 HWB.out.2.2).mono ?_
    intro e W7 h
    obtain ⟨k2, A2, m2, c2, key2, i2, j2, n2, vk2, vn2, vs2, B2, p2, q2, D2, r2, s2, t2, o2, rfl, h2, hE7⟩ := h.form
    have hA : Ext W7 (W7.alloc (.cells #[.int .u8 k2, .slice A2 m2 c2, .string key2, .int .i64 i2, .int .i64 j2, .int .i64 n2, .int .u8 vk2, .int .i64 vn2, .string vs2, .slice B2 p2 q2, .slice D2 r2 s2, .string t2] TCMP)) := (Keep.refl _ _).alloc _
    have HY := hid (Blk.new W7 TCMP #[.int .u8 k2, .slice A2 m2 c2, .string key2, .int .i64 i2, .int .i64 j2, .int .i64 n2, .int .u8 vk2, .int .i64 vn2, .string vs2, .slice B2 p2 q2, .slice D2 r2 s2, .string t2])
    have HX7 := hid (HX.out.keep (hE7.ext hA) id)
    have HE7 := hid (HE5.out.ext (hE7.ext hA))
    have HEA := hid (hE7.ext hA)
    have HA7 := hid hA
    have H2 := hid h2
    clear h h2 hE7 hA HB5 HBB5 HE5 HVB5 HV5 HX v0 v1 v2 v3 v4 y0 y1 y2 y3 y4 y5 y6
    rcases H1.out with rfl | ⟨rfl, cx, hcx, hox⟩
    · clear H1 H2
      go_wp2
      go_ret
      exact ⟨rfl, HE7.out⟩
    · rcases H2.out with rfl | ⟨rfl, cy, hcy, hoy⟩
      · clear H1 H2 hcx hox
        go_wp2
        go_ret
        exact ⟨rfl, HE7.out⟩
      · have hcx := hcx.ext HEA.out
        have hcy := hcy.ext HA7.out
        have HCX := hid hcx
        have HCY := hid hcy
        have HOX := hid hox
        clear H1 H2 hox hoy HEA HA7
        obtain ⟨pv1, lv1, ov1, e1, x1, x2, x3⟩ := hcx
        obtain ⟨pv2, lv2, ov2, e2, y1, y2, y3⟩ := hcy
        simp at e1 e2
        obtain ⟨rfl, rfl, rfl, rfl, rfl, rfl, rfl, rfl, rfl, rfl, rfl, rfl⟩ := e1
        obtain ⟨rfl, rfl, rfl, rfl, rfl, rfl, rfl, rfl, rfl, rfl, rfl, rfl⟩ := e2
        have HPX := hid x1
        have HPY := hid y1
        have a1 := HX7.out.cell 1
        have d1 := HY.out.cell 1
        simp at a1 d1
        clear x1 x2 x3 y1 y2 y3
        go_wp2_with fail
        generalize W7.alloc (.cells #[.int .u8 (cy.kind.toNat : Int), .slice A2 m2 c2, .string cy.key, .int .i64 cy.i, .int .i64 cy.j, .int .i64 cy.n, .int .u8 (cy.v.kind.toNat : Int), .int .i64 cy.v.n, .string cy.v.s, .slice B2 p2 q2, .slice D2 r2 s2, .string cy.s] TCMP) = W8 at *
        refine (rbegins_ok W8 _ _ _ _ cx.path cy.path HPX.out HPY.out).mono ?_
        intro e W9 hbeg
        have hsm := HOX.out.small
        by_cases hbe : cy.path <+: cx.path
        · obtain ⟨rfl, hE9⟩ := hbeg.yes hbe
          go_wp2
          go_ret
          exact ⟨rfl, HE7.out.ext hE9⟩
        · obtain ⟨rfl, hE9⟩ := hbeg.no hbe
          have HCX9 := hid (HCX.out.ext hE9)
          have HCY9 := hid (HCY.out.ext hE9)
          have HX9 := hid (HX7.out.keep hE9 id)
          have HY9 := hid (HY.out.keep hE9 id)
          have HE9 := hid (HE7.out.ext hE9)
          have HNB := hid hbe
          have HSM := hid hsm
          clear hbeg hbe hsm hE9 HCX HCY HX7 HY HE7 HPX HPY a1 d1
          have x0 := HX9.out.cell 0
          have x1 := HX9.out.cell 1
          have x2 := HX9.out.cell 2
          have x3 := HX9.out.cell 3
          have x4 := HX9.out.cell 4
          have x5 := HX9.out.cell 5
          have x6 := HX9.out.cell 6
          have x7 := HX9.out.cell 7
          have x8 := HX9.out.cell 8
          have x9 := HX9.out.cell 9
          have x10 := HX9.out.cell 10
          have x11 := HX9.out.cell 11
          simp at x0 x1 x2 x3 x4 x5 x6 x7 x8 x9 x10 x11
          have y0 := HY9.out.cell 0
          have y1 := HY9.out.cell 1
          have y2 := HY9.out.cell 2
          have y3 := HY9.out.cell 3
          have y4 := HY9.out.cell 4
          have y5 := HY9.out.cell 5
          have y6 := HY9.out.cell 6
          have y7 := HY9.out.cell 7
          have y8 := HY9.out.cell 8
          have y9 := HY9.out.cell 9
          have y10 := HY9.out.cell 10
          have y11 := HY9.out.cell 11
          simp at y0 y1 y2 y3 y4 y5 y6 y7 y8 y9 y10 y11
          go_wp2_with fail
          refine (turn_apart W9 _ _ _ _ cx cy left HCX9.out HCY9.out HSM.out.1 HSM.out.2 HNB.out).mono ?_
          rintro e W10 ⟨g, pv, lv, ov, rfl, h1, h2, h3, h4, hE10⟩
          obtain ⟨A3, n3, rfl, _⟩ := h2.shape
          obtain ⟨A4, n4, rfl, _⟩ := h3.shape
          obtain ⟨A5, n5, rfl, _⟩ := h4.shape
          have HG := hid (show CAt W10 (fun k => W9.heap.size ≤ k) (.agg (cpCells cx (.slice A3 cx.path.length n3) (.slice A4 cx.v.l.length n4) (.slice A5 cx.v.o.length n5))) cx from ⟨_, _, _, rfl, h2, h3, h4⟩)
          have HP := hid h1
          have HCX10 := hid (HCX9.out.ext hE10)
          have HX10 := hid (HX9.out.keep hE10 id)
          have HE10 := hid (HE9.out.ext hE10)
          clear h1 h2 h3 h4 hE10 HCX9 HCY9 HX9 HY9 HE9 x0 x1 x2 x3 x4 x5 x6 x7 x8 x9 x10 x11 y0 y1 y2 y3 y4 y5 y6 y7 y8 y9 y10 y11
          have x0 := HX10.out.cell 0
          have x1 := HX10.out.cell 1
          have x2 := HX10.out.cell 2
          have x3 := HX10.out.cell 3
          have x4 := HX10.out.cell 4
          have x5 := HX10.out.cell 5
          have x6 := HX10.out.cell 6
          have x7 := HX10.out.cell 7
          have x8 := HX10.out.cell 8
          have x9 := HX10.out.cell 9
          have x10 := HX10.out.cell 10
          have x11 := HX10.out.cell 11
          simp at x0 x1 x2 x3 x4 x5 x6 x7 x8 x9 x10 x11
          have y0 := HP.out.cell 0
          have y1 := HP.out.cell 1
          have y2 := HP.out.cell 2
          have y3 := HP.out.cell 3
          have y4 := HP.out.cell 4
          have y5 := HP.out.cell 5
          have y6 := HP.out.cell 6
          have y7 := HP.out.cell 7
          have y8 := HP.out.cell 8
          have y9 := HP.out.cell 9
          have y10 := HP.out.cell 10
          have y11 := HP.out.cell 11
          simp at y0 y1 y2 y3 y4 y5 y6 y7 y8 y9 y10 y11
          go_wp2_with fail
          refine wp_region_parts [] [0, 1, 2, 3, 4, 5, 6, 7, 8, 9, 10] [] (specOf [(8, fun v w' => v = .bool true)]) (fun w' => Ext W10 w') (stable_cons (fun v w w' h he => h) stable_nil) (stableC_ext _) (by kernel_rfl) (by kernel_rfl) (Keep.drew (Keep.refl _ _)) ?_
          refine pure_nil ?_
          iterate 8
            (try simp only [Act.put, List.setIfInBounds_toArray, List.set_cons_zero, List.set_cons_succ])
            refine growP_run rfl rfl rfl ?_
            apply Exists.intro
            refine ⟨fun w' hC hK => ?_, ?_⟩
            · have x0 := (hC.cell (lt_of_cell x0) id).trans x0
              have x1 := (hC.cell (lt_of_cell x1) id).trans x1
              have x2 := (hC.cell (lt_of_cell x2) id).trans x2
              have x3 := (hC.cell (lt_of_cell x3) id).trans x3
              have x4 := (hC.cell (lt_of_cell x4) id).trans x4
              have x5 := (hC.cell (lt_of_cell x5) id).trans x5
              have x6 := (hC.cell (lt_of_cell x6) id).trans x6
              have x7 := (hC.cell (lt_of_cell x7) id).trans x7
              have x8 := (hC.cell (lt_of_cell x8) id).trans x8
              have x9 := (hC.cell (lt_of_cell x9) id).trans x9
              have x10 := (hC.cell (lt_of_cell x10) id).trans x10
              have x11 := (hC.cell (lt_of_cell x11) id).trans x11
              have y0 := (hC.cell (lt_of_cell y0) id).trans y0
              have y1 := (hC.cell (lt_of_cell y1) id).trans y1
              have y2 := (hC.cell (lt_of_cell y2) id).trans y2
              have y3 := (hC.cell (lt_of_cell y3) id).trans y3
              have y4 := (hC.cell (lt_of_cell y4) id).trans y4
              have y5 := (hC.cell (lt_of_cell y5) id).trans y5
              have y6 := (hC.cell (lt_of_cell y6) id).trans y6
              have y7 := (hC.cell (lt_of_cell y7) id).trans y7
              have y8 := (hC.cell (lt_of_cell y8) id).trans y8
              have y9 := (hC.cell (lt_of_cell y9) id).trans y9
              have y10 := (hC.cell (lt_of_cell y10) id).trans y10
              have y11 := (hC.cell (lt_of_cell y11) id).trans y11
              go_simp
              rfl
          (try simp only [Act.put, List.setIfInBounds_toArray, List.set_cons_zero, List.set_cons_succ])
          refine growP_eff rfl rfl rfl (fun w' hC hK => ?_) (fun v8 hv8 => ?_)
          · unfold growAt
            go_simp
            refine grow_call ((rsame06_yes w' _ _ _ _ cx (HG.out.ext hC) (HCX10.out.ext hC)).mono ?_)
            rintro e w'' ⟨rfl, h2⟩
            exact ⟨_, rfl, h2, rfl⟩
          obtain ⟨_, _, rfl⟩ := hv8.head
          iterate 2
            (try simp only [Act.put, List.setIfInBounds_toArray, List.set_cons_zero, List.set_cons_succ])
            refine growP_run rfl rfl rfl ?_
            apply Exists.intro
            refine ⟨fun w' hC hK => ?_, ?_⟩
            · go_simp
              rfl
          refine growP_nil fun w2 hC hK => ?_
          have HC := hid (show Ext W10 w2 from hC)
          clear hC hK
          change wpList _ _ _ [] _ _
          (try simp only [Act.put, List.setIfInBounds_toArray, List.set_cons_zero, List.set_cons_succ])
          refine NoPanic.normal ?_
          go_wp2
          go_ret
          exact ⟨rfl, HE10.out.ext HC.out⟩
end Go.Proofs.Ytioplgfopillnaa

/- From the readings of arguments to the words of the walks. -/
set_option linter.unusedSimpArgs false
set_option linter.unusedVariables false
namespace Go.Proofs.Ytioplgfopillnaa
open Go.ChangeShapes Go.WideShapes Go.ChangeAt Go.RowKit

section
variable {H : Type} {enc : TypeId × Value → H} {P : Program} {W : World}

theorem add_cell {x : Addr} {i : Nat} (hx : x.spot = none) : x.add i = ⟨x.block, x.off + i, none⟩ := by
  cases x; simp at hx; subst hx
  unfold Addr.add
  split <;> simp_all

theorem spot_of_cell {x : Addr} {v : Value} (h : W.cell? x = some v) : x.spot = none := by
  unfold World.cell? at h
  split at h
  · split at h
    · cases h
    · rename_i hs; simpa using hs
  · cases h

theorem u8_of_wf {n : Int} (h : (Lit.int .u8 n).wf = true) : ∃ c : UInt8, n = (c.toNat : Int) := by
  have h1 : 0 ≤ n ∧ n ≤ 255 := by
    simp [Lit.wf, IntKind.has, IntKind.min, IntKind.max, IntKind.signed, IntKind.bits] at h
    omega
  refine ⟨UInt8.ofNat n.toNat, ?_⟩
  rw [UInt8.toNat_ofNat_of_lt' (by simp [UInt8.size]; omega)]
  omega

theorem u8s_of_wf : ∀ (zs : List Int), (∀ n ∈ zs, (Lit.int .u8 n).wf = true) → ∃ l : List UInt8, zs = l.map fun c => (c.toNat : Int)
  | [], _ => ⟨[], rfl⟩
  | z :: zs, h => by
    obtain ⟨c, hc⟩ := u8_of_wf (h z (by simp))
    obtain ⟨l, hl⟩ := u8s_of_wf zs fun n hn => h n (by simp [hn])
    exact ⟨c :: l, by simp [hc, hl]⟩

theorem bytes_of_trod {t e : TypeId} {spare : Nat → Bool} {held : Bool} {v : Value} {d : DataW H} {p : List MemPlace} (ht : P.underlying t = some (.slice e)) (he : P.underlying e = some (.int .u8)) (hc : P.cellsOf e = 1)
    (hv : ∃ a len cap, v = .slice a len cap) (h : DataW.Trod enc P W 0 spare held t v d p) : ∃ l : List UInt8, Bytes W W.heap.size v l := by
  obtain ⟨a, len, cap, rfl⟩ := hv
  obtain ⟨fuel, hf⟩ := h
  rcases open_ints ht he hc hf with ⟨hcs, _⟩ | ⟨x, len', cap', zs, hcs, _, hl, hm, hz, _, hcell, hwz⟩
  · simp [Value.cells] at hcs
    obtain ⟨rfl, rfl, rfl⟩ := hcs
    exact ⟨[], Row.nil _ _⟩
  · simp [Value.cells] at hcs
    obtain ⟨rfl, rfl, rfl⟩ := hcs
    obtain ⟨l, rfl⟩ := u8s_of_wf zs hwz
    have hlen : len ≤ l.length := by
      simp at hz
      split at hz <;> omega
    refine ⟨l.take len, some x, cap, by simp [hlen], by simp; omega, hm, fun hn => ?_⟩
    have h0 : 0 < l.length := by simp at hn; omega
    have hs := spot_of_cell (by simpa [Addr.add] using hcell 0 (by simpa using h0))
    refine ⟨x.block, x.off, by cases x; simp at hs; subst hs; rfl, ?_, fun i u hu => ?_⟩
    · have := lt_of_cell (hcell 0 (by simpa using h0))
      simpa [Addr.add] using this
    · obtain ⟨hi, rfl⟩ := List.getElem?_eq_some_iff.1 hu
      have hlt : i < l.length := by simp at hi; omega
      have := hcell i (by simpa using hlt)
      rw [add_cell hs] at this
      rw [this]
      simp [List.getD, hlt]
end
end Go.Proofs.Ytioplgfopillnaa

/- From the readings of arguments to slices of structs. -/
set_option linter.unusedSimpArgs false
set_option linter.unusedVariables false
namespace Go.Proofs.Ytioplgfopillnaa
open Go.ChangeShapes Go.WideShapes Go.ChangeAt Go.RowKit Go.Deep

theorem bytesS_of {w : World} {v : Value} {l : List UInt8} (h : Bytes w w.heap.size v l) : BytesS w (fun k => k < w.heap.size) v l := by
  obtain ⟨A, c, rfl, h1, h2, h3⟩ := h.open_
  refine ⟨l.map U8, ⟨by simp [EU8], A, c, rfl, h1, h2, fun hn => ?_⟩, U8_cells l⟩
  obtain ⟨b, off, e, hb, hc⟩ := h3 hn
  refine ⟨b, off, e, hb, hb, fun j u hu => ?_⟩
  obtain ⟨hj, rfl⟩ := List.getElem?_eq_some_iff.1 hu
  have hj' : j < l.length := by simpa using hj
  rw [hc j hj']
  simp [List.getD, hj', U8]

/-- A row read one element after the other. -/
theorem cells_build {α : Type} {E : El α} (hE : E.Ok) {w : World} {S : BS} {b off : Nat} : ∀ (n : Nat), (∀ i, i < n → ∃ (x : α) (c0 : List Value), E.rd w S c0 x ∧ ∀ j u, c0[j]? = some u → w.cell? ⟨b, off + (i * E.size + j), none⟩ = some u) →
    ∃ (l : List α) (cs : List Value), l.length = n ∧ Cells E w S cs l ∧ ∀ k u, cs[k]? = some u → w.cell? ⟨b, off + k, none⟩ = some u
  | 0, _ => ⟨[], [], rfl, rfl, fun k u h => by simp at h⟩
  | n + 1, h => by
    obtain ⟨l, cs, hl, hc, hk⟩ := cells_build hE n fun i hi => h i (by omega)
    obtain ⟨x, c0, hx, h0⟩ := h n (by omega)
    refine ⟨l ++ [x], cs ++ c0, by simp [hl], hc.append (Cells.single hx), fun k u hu => ?_⟩
    have hcl := hc.len hE
    rcases Nat.lt_or_ge k cs.length with h1 | h1
    · rw [List.getElem?_append_left h1] at hu; exact hk k u hu
    · rw [List.getElem?_append_right h1] at hu
      have := h0 _ u hu
      rwa [show n * E.size + (k - cs.length) = k from by rw [hcl, hl] at h1 ⊢; omega] at this

section
variable {H : Type} {enc : TypeId × Value → H} {P : Program} {W : World}
/-- A slice of structs of one-cell fields. -/
theorem sl_of_trod {α : Type} {E : El α} (hE : E.Ok) {t e : TypeId} {fs : Array Field} {spare : Nat → Bool} {held : Bool} {v : Value} {d : DataW H} {p : List MemPlace} (ht : P.underlying t = some (.slice e)) (he : P.underlying e = some (.struct fs))
    (hone : oneCellFields P fs = true) (hC : P.cellsOf e = fs.size) (hs : E.size = fs.size) (hv : ∃ a len cap, v = .slice a len cap) (h : DataW.Trod enc P W 0 spare held t v d p)
    (hx : ∀ (cs : List Value), cs.length = fs.size → (∀ (j : Nat) (f : Field), fs[j]? = some f → ∃ (u : Value) (n : Nat) (y : DataW H × List MemPlace), cs[j]? = some u ∧ DataW.trod enc P W 0 spare held n f.type [u] = some y) →
      ∃ x, E.rd W (fun k => k < W.heap.size) cs x) : ∃ l : List α, Sl E W (fun k => k < W.heap.size) v l := by
  obtain ⟨a, len, cap, rfl⟩ := hv
  obtain ⟨fuel, hf⟩ := h
  rcases open_slice ht hf with ⟨h0, _⟩ | ⟨x, len', cap', m, n, D, Pl, hcs, _, hl, hm, hmm, _, hi⟩
  · simp [Value.cells] at h0
    obtain ⟨rfl, rfl, rfl⟩ := h0
    exact ⟨[], Sl.nil _ _⟩
  · simp [Value.cells] at hcs
    obtain ⟨rfl, rfl, rfl⟩ := hcs
    have hlen : len ≤ m := by rw [hmm]; split <;> omega
    have hpos : 0 < fs.size := by rw [← hs]; exact hE.pos
    have key : ∀ i, i < len → ∃ (y : α) (c0 : List Value), E.rd W (fun k => k < W.heap.size) c0 y ∧ ∀ j, j < fs.size → W.cell? (x.add (i * fs.size + j)) = c0[j]? := fun i hil => by
      obtain ⟨cs', hc, ht'⟩ := hi i (by omega)
      rw [hC] at hc
      obtain ⟨_, hcl, hat⟩ := World.cells?_some hc
      obtain ⟨ys, n', _, _, _, hyl, hfl⟩ := DataW.trod_struct he ht'
      obtain ⟨y, hy⟩ := hx cs' hcl fun j f hj => by
        obtain ⟨ho, hk⟩ := hone_of hone j f hj
        have hjl : j < fs.size := (Array.getElem?_eq_some_iff.1 hj).1
        have h1 := hfl j f hj
        rw [ho, hk, List.drop_eq_getElem_cons (by omega)] at h1
        exact ⟨cs'[j]'(by omega), n', ys[j]'(by omega), List.getElem?_eq_getElem (by omega), h1.trans (List.getElem?_eq_getElem (by omega))⟩
      exact ⟨y, cs', hy, fun j hj => by rw [← add_add]; exact hat j hj⟩
    rcases Nat.eq_zero_or_pos len with h0 | h0
    · subst h0
      exact ⟨[], [], ⟨by simp, some x, cap, rfl, by simp, hm, fun h => by simp at h⟩, rfl⟩
    · obtain ⟨y0, c0, hr0, hc0⟩ := key 0 h0
      have hl0 := hE.len hr0
      have hcell0 : W.cell? (x.add (0 * fs.size + 0)) = some (c0[0]'(by omega)) := by rw [hc0 0 hpos]; exact List.getElem?_eq_getElem _
      have hsp := spot_of_cell (by simpa [Addr.add] using hcell0)
      obtain ⟨b, off, sp⟩ := x
      simp at hsp
      subst hsp
      have hadd : ∀ k, (⟨b, off, none⟩ : Addr).add k = ⟨b, off + k, none⟩ := fun k => add_cell rfl
      have hlt := lt_of_cell (by rw [hadd] at hcell0; exact hcell0)
      obtain ⟨l, cs, hll, hcc, hcell⟩ := cells_build (w := W) (S := fun k => k < W.heap.size) (b := b) (off := off) hE len fun i hi => by
        obtain ⟨y, c1, hr, hc⟩ := key i hi
        refine ⟨y, c1, hr, fun j u hu => ?_⟩
        have hj : j < fs.size := by have := hE.len hr; have := (List.getElem?_eq_some_iff.1 hu).1; omega
        have := hc j hj
        rw [hadd, hu, ← hs] at this
        exact this
      refine ⟨l, cs, ⟨hcc.len hE, some ⟨b, off, none⟩, cap, by rw [hll], by omega, hm, fun _ => ⟨b, off, rfl, hlt, hlt, fun j u hu => hcell j u hu⟩⟩, hcc⟩
end
end Go.Proofs.Ytioplgfopillnaa
