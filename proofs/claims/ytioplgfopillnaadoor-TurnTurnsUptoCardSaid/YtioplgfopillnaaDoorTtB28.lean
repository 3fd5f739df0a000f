/- TurnY, TurnTL: laid together. -/
import Derived.Test.YtioplgfopillnaaDoorTtB27
import Derived.Test.YtioplgfopillnaaDoorTtB19
import Derived.Test.YtioplgfopillnaaDoorRows
/- The walk of TurnTurns. -/
set_option linter.unusedSimpArgs false
set_option linter.unusedVariables false
namespace Go.Proofs.YtioplgfopillnaaDoor
open Go.RowKit
set_option linter.unusedVariables false

def ListAt (l : List Cp) (v : Value) (w : World) : Prop := ∃ A n c, v = .slice A n c ∧ Sl ECp w (fun _ => True) v l
theorem ListAt.ext {l : List Cp} {v : Value} {w w' : World} (h : ListAt l v w) (he : Ext w w') : ListAt l v w' := by
  obtain ⟨A, n, c, h1, h2⟩ := h; exact ⟨A, n, c, h1, h2.ext ECp.ok he⟩
theorem ListAt.sl {l : List Cp} {v : Value} {w : World} (h : ListAt l v w) : Sl ECp w (fun _ => True) v l := by
  obtain ⟨_, _, _, _, h⟩ := h; exact h
theorem TList.at_ {w w' : World} {l : List Cp} {e : Ending} (h : TList w l e w') : ∃ v, e = .returned v ∧ Ext w w' ∧ ListAt l v w' := by
  obtain ⟨v, rfl, h1, h2⟩ := h
  obtain ⟨A, c, rfl, _⟩ := h1.shape
  exact ⟨_, rfl, h2, A, _, c, rfl, h1.more ECp.ok fun _ _ _ => trivial⟩
/-- Like lists are alike. -/
theorem same_list {w : World} {u v : Value} {l : List Cp} (h1 : ListAt l u w) (h2 : ListAt l v w) : Calls Tryd.prog 12 #[u, v] w fun e w' => e = .returned (.bool true) ∧ Ext w w' := rsame7_ok w _ _ u v l h1.sl h2.sl
theorem br_bd {b : Br} {x : V} (hf : b.s.size ≤ 2000 ∧ b.path.length ≤ 30 ∧ (-1073741824 ≤ b.i ∧ b.i ≤ 1073741824) ∧ (-1073741824 ≤ b.j ∧ b.j ≤ 1073741824) ∧ -1073741824 ≤ b.n ∧ b.n ≤ 1073741824) (hb : (∀ s ∈ b.path, 0 ≤ s.i ∧ s.i ≤ 1073741824) ∧ 0 ≤ b.i ∧ 0 ≤ b.j ∧ 0 ≤ b.n) (hx : x.size ≤ 241) : Bd (brCp b x) ∧ Fit (brCp b x) := by
  obtain ⟨h1, h2, h3, h4, h5, h6⟩ := hf
  obtain ⟨k1, k2, k3, k4⟩ := hb
  refine ⟨⟨?_, ?_, fun _ => ⟨?_, ?_⟩, ?_, fun s hs => ?_⟩, ?_, ?_⟩
  · show Sm b.i; unfold Sm; omega
  · show Sm b.j; unfold Sm; omega
  · show Tm b.i; unfold Tm; omega
  · show Tm b.n; unfold Tm; omega
  · show b.s.size ≤ 100000; omega
  · have := k1 s hs; unfold Sm; omega
  · show b.path.length ≤ 1000; omega
  · show x.size ≤ 1000000; omega
set_option maxRecDepth 20000 in
set_option maxHeartbeats 12800000 in
theorem turns07_ok (w : World) (S1 S2 : BS) (av bv : Value) (a b : Br) (left : Bool) (ha : BrAt w S1 av a) (hb : BrAt w S2 bv b) (hoa : BrOk a) (hob : BrOk b) (hD : DecAny w) :
    Calls Tryd.prog 3 #[av, bv, .bool left] w fun e w' => e = .returned (.bool true) ∧ Ext w w' := by
  obtain ⟨p1, v1, rfl, a1, a2⟩ := ha
  obtain ⟨p2, v2, rfl, b1, b2⟩ := hb
  obtain ⟨Aa, ca, rfl, _⟩ := a1.shape
  obtain ⟨Av, cv, rfl, _⟩ := a2.shape
  obtain ⟨Ba, da, rfl, _⟩ := b1.shape
  obtain ⟨Bv, dv, rfl, _⟩ := b2.shape
  obtain ⟨W, hW⟩ : ∃ W, (w.alloc (.cells (brCells a (.slice Aa a.path.length ca) (.slice Av a.v.length cv)) TBARE)).alloc (.cells (brCells b (.slice Ba b.path.length da) (.slice Bv b.v.length dv)) TBARE) = W := ⟨_, rfl⟩
  have hE : Ext w W := by rw [← hW]; exact ((Keep.refl _ _).alloc _).alloc _
  have hba : Blk W w.heap.size TBARE (brCells a (.slice Aa a.path.length ca) (.slice Av a.v.length cv)) := by rw [← hW]; exact (Blk.new _ _ _).alloc _
  have hbb : Blk W (w.heap.size + 1) TBARE (brCells b (.slice Ba b.path.length da) (.slice Bv b.v.length dv)) := by
    have := Blk.new (w.alloc (.cells (brCells a (.slice Aa a.path.length ca) (.slice Av a.v.length cv)) TBARE)) TBARE (brCells b (.slice Ba b.path.length da) (.slice Bv b.v.length dv))
    rw [World.size_alloc, hW] at this
    exact this
  have HA0 := hid (show BrAt W S1 (.agg (brCells a (.slice Aa a.path.length ca) (.slice Av a.v.length cv))) a from ⟨_, _, rfl, a1.ext ESt.ok hE, a2.ext ETok.ok hE⟩)
  have HB0 := hid (show BrAt W S2 (.agg (brCells b (.slice Ba b.path.length da) (.slice Bv b.v.length dv))) b from ⟨_, _, rfl, b1.ext ESt.ok hE, b2.ext ETok.ok hE⟩)
  have HE0 := hid hE
  have HBA0 := hid hba
  have HBB0 := hid hbb
  have HOA := hid hoa
  have HOB := hid hob
  have HD := hid hD
  have x0 := hba.cell 0
  have x1 := hba.cell 1
  have x2 := hba.cell 2
  have x3 := hba.cell 3
  have x4 := hba.cell 4
  have x5 := hba.cell 5
  have x6 := hba.cell 6
  have x7 := hba.cell 7
  simp at x0 x1 x2 x3 x4 x5 x6 x7
  have y0 := hbb.cell 0
  have y1 := hbb.cell 1
  have y2 := hbb.cell 2
  have y3 := hbb.cell 3
  have y4 := hbb.cell 4
  have y5 := hbb.cell 5
  have y6 := hbb.cell 6
  have y7 := hbb.cell 7
  simp at y0 y1 y2 y3 y4 y5 y6 y7
  clear a1 a2 b1 b2 hE hba hbb hoa hob hD
  go_enter Tryd.func3, Tryd.ntmps3
  go_wp2_with fail
  refine (far7_ok W _ _ a HA0.out HOA.out).mono ?_
  rintro e W1 ⟨bb, rfl, hE, fa⟩
  cases bb with
  | true =>
    have HE1 := hid (HE0.out.ext hE)
    clear hE fa
    go_wp2_with fail
    refine (known07_ok W1).mono ?_
    rintro e WK ⟨rfl, hE2⟩
    go_wp2
    go_ret
    exact ⟨rfl, HE1.out.ext hE2⟩
  | false =>
    have FA := hid (fa rfl)
    clear fa
    have HA1 := hid (HA0.out.ext hE)
    have HB1 := hid (HB0.out.ext hE)
    have HE1 := hid (HE0.out.ext hE)
    have HBA1 := hid (HBA0.out.keep hE id)
    have HBB1 := hid (HBB0.out.keep hE id)
    clear hE HA0 HB0 HE0 HBA0 HBB0 x0 x1 x2 x3 x4 x5 x6 x7 y0 y1 y2 y3 y4 y5 y6 y7
    have x0 := HBA1.out.cell 0
    have x1 := HBA1.out.cell 1
    have x2 := HBA1.out.cell 2
    have x3 := HBA1.out.cell 3
    have x4 := HBA1.out.cell 4
    have x5 := HBA1.out.cell 5
    have x6 := HBA1.out.cell 6
    have x7 := HBA1.out.cell 7
    simp at x0 x1 x2 x3 x4 x5 x6 x7
    have y0 := HBB1.out.cell 0
    have y1 := HBB1.out.cell 1
    have y2 := HBB1.out.cell 2
    have y3 := HBB1.out.cell 3
    have y4 := HBB1.out.cell 4
    have y5 := HBB1.out.cell 5
    have y6 := HBB1.out.cell 6
    have y7 := HBB1.out.cell 7
    simp at y0 y1 y2 y3 y4 y5 y6 y7
    go_wp2_with fail
    refine (far7_ok W1 _ _ b HB1.out HOB.out).mono ?_
    rintro e W2 ⟨bb, rfl, hE, fb⟩
    cases bb with
    | true =>
      have HE1 := hid (HE1.out.ext hE)
      clear hE fb
      go_wp2_with fail
      refine (known07_ok W2).mono ?_
      rintro e WK ⟨rfl, hE2⟩
      go_wp2
      go_ret
      exact ⟨rfl, HE1.out.ext hE2⟩
    | false =>
      have FB := hid (fb rfl)
      clear fb
      have HA2 := hid (HA1.out.ext hE)
      have HB2 := hid (HB1.out.ext hE)
      have HE2 := hid (HE1.out.ext hE)
      have HBA2 := hid (HBA1.out.keep hE id)
      have HBB2 := hid (HBB1.out.keep hE id)
      clear hE HA1 HB1 HE1 HBA1 HBB1 x0 x1 x2 x3 x4 x5 x6 x7 y0 y1 y2 y3 y4 y5 y6 y7
      have x0 := HBA2.out.cell 0
      have x1 := HBA2.out.cell 1
      have x2 := HBA2.out.cell 2
      have x3 := HBA2.out.cell 3
      have x4 := HBA2.out.cell 4
      have x5 := HBA2.out.cell 5
      have x6 := HBA2.out.cell 6
      have x7 := HBA2.out.cell 7
      simp at x0 x1 x2 x3 x4 x5 x6 x7
      have y0 := HBB2.out.cell 0
      have y1 := HBB2.out.cell 1
      have y2 := HBB2.out.cell 2
      have y3 := HBB2.out.cell 3
      have y4 := HBB2.out.cell 4
      have y5 := HBB2.out.cell 5
      have y6 := HBB2.out.cell 6
      have y7 := HBB2.out.cell 7
      simp at y0 y1 y2 y3 y4 y5 y6 y7
      go_wp2_with fail
      refine (below7_ok W2 _ _ a HA2.out).mono ?_
      rintro e W3 ⟨bb, rfl, hE, ba⟩
      cases bb with
      | true =>
        have HE1 := hid (HE2.out.ext hE)
        clear hE ba
        go_wp2_with fail
        refine (known07_ok W3).mono ?_
        rintro e WK ⟨rfl, hE2⟩
        go_wp2
        go_ret
        exact ⟨rfl, HE1.out.ext hE2⟩
      | false =>
        have BA := hid (ba rfl)
        clear ba
        have HA3 := hid (HA2.out.ext hE)
        have HB3 := hid (HB2.out.ext hE)
        have HE3 := hid (HE2.out.ext hE)
        have HBA3 := hid (HBA2.out.keep hE id)
        have HBB3 := hid (HBB2.out.keep hE id)
        clear hE HA2 HB2 HE2 HBA2 HBB2 x0 x1 x2 x3 x4 x5 x6 x7 y0 y1 y2 y3 y4 y5 y6 y7
        have x0 := HBA3.out.cell 0
        have x1 := HBA3.out.cell 1
        have x2 := HBA3.out.cell 2
        have x3 := HBA3.out.cell 3
        have x4 := HBA3.out.cell 4
        have x5 := HBA3.out.cell 5
        have x6 := HBA3.out.cell 6
        have x7 := HBA3.out.cell 7
        simp at x0 x1 x2 x3 x4 x5 x6 x7
        have y0 := HBB3.out.cell 0
        have y1 := HBB3.out.cell 1
        have y2 := HBB3.out.cell 2
        have y3 := HBB3.out.cell 3
        have y4 := HBB3.out.cell 4
        have y5 := HBB3.out.cell 5
        have y6 := HBB3.out.cell 6
        have y7 := HBB3.out.cell 7
        simp at y0 y1 y2 y3 y4 y5 y6 y7
        go_wp2_with fail
        refine (below7_ok W3 _ _ b HB3.out).mono ?_
        rintro e W4 ⟨bb, rfl, hE, bb_⟩
        cases bb with
        | true =>
          have HE1 := hid (HE3.out.ext hE)
          clear hE bb_
          go_wp2_with fail
          refine (known07_ok W4).mono ?_
          rintro e WK ⟨rfl, hE2⟩
          go_wp2
          go_ret
          exact ⟨rfl, HE1.out.ext hE2⟩
        | false =>
          have BB_ := hid (bb_ rfl)
          clear bb_
          have HA4 := hid (HA3.out.ext hE)
          have HB4 := hid (HB3.out.ext hE)
          have HE4 := hid (HE3.out.ext hE)
          have HBA4 := hid (HBA3.out.keep hE id)
          have HBB4 := hid (HBB3.out.keep hE id)
          clear hE HA3 HB3 HE3 HBA3 HBB3 x0 x1 x2 x3 x4 x5 x6 x7 y0 y1 y2 y3 y4 y5 y6 y7
          have x0 := HBA4.out.cell 0
          have x1 := HBA4.out.cell 1
          have x2 := HBA4.out.cell 2
          have x3 := HBA4.out.cell 3
          have x4 := HBA4.out.cell 4
          have x5 := HBA4.out.cell 5
          have x6 := HBA4.out.cell 6
          have x7 := HBA4.out.cell 7
          simp at x0 x1 x2 x3 x4 x5 x6 x7
          have y0 := HBB4.out.cell 0
          have y1 := HBB4.out.cell 1
          have y2 := HBB4.out.cell 2
          have y3 := HBB4.out.cell 3
          have y4 := HBB4.out.cell 4
          have y5 := HBB4.out.cell 5
          have y6 := HBB4.out.cell 6
          have y7 := HBB4.out.cell 7
          simp at y0 y1 y2 y3 y4 y5 y6 y7
          go_wp2_with fail
          refine (known07_ok W4).mono ?_
          rintro e W5 ⟨rfl, hE⟩
          have HA5 := hid (HA4.out.ext hE)
          have HB5 := hid (HB4.out.ext hE)
          have HE5 := hid (HE4.out.ext hE)
          have HBA5 := hid (HBA4.out.keep hE id)
          have HBB5 := hid (HBB4.out.keep hE id)
          clear hE HA4 HB4 HE4 HBA4 HBB4 x0 x1 x2 x3 x4 x5 x6 x7 y0 y1 y2 y3 y4 y5 y6 y7
          have x0 := HBA5.out.cell 0
          have x1 := HBA5.out.cell 1
          have x2 := HBA5.out.cell 2
          have x3 := HBA5.out.cell 3
          have x4 := HBA5.out.cell 4
          have x5 := HBA5.out.cell 5
          have x6 := HBA5.out.cell 6
          have x7 := HBA5.out.cell 7
          simp at x0 x1 x2 x3 x4 x5 x6 x7
          have y0 := HBB5.out.cell 0
          have y1 := HBB5.out.cell 1
          have y2 := HBB5.out.cell 2
          have y3 := HBB5.out.cell 3
          have y4 := HBB5.out.cell 4
          have y5 := HBB5.out.cell 5
          have y6 := HBB5.out.cell 6
          have y7 := HBB5.out.cell 7
          simp at y0 y1 y2 y3 y4 y5 y6 y7
          go_wp2_with fail
          refine (comp6_ok W5 _ _ a HA5.out).mono ?_
          rintro e W6 ⟨xa, pa, qa, la, ma, oa, ra, Pa, La, Oa, rfl, hxa, hca, hE6⟩
          have hA : Ext W6 (W6.alloc (.cells #[U8 a.kind, .slice Pa pa qa, .string a.key, .int .i64 a.i, .int .i64 a.j, .int .i64 a.n, U8 xa.kind, .int .i64 xa.n, .string xa.s, .slice La la ma, .slice Oa oa ra, .string a.s] TCMP)) := (Keep.refl _ _).alloc _
          have HXB := hid (Blk.new W6 TCMP #[U8 a.kind, .slice Pa pa qa, .string a.key, .int .i64 a.i, .int .i64 a.j, .int .i64 a.n, U8 xa.kind, .int .i64 xa.n, .string xa.s, .slice La la ma, .slice Oa oa ra, .string a.s])
          have HCA := hid (hca.ext hA)
          have HXA := hid hxa
          have HB6 := hid (HB5.out.ext (hE6.ext hA))
          have HE6 := hid (HE5.out.ext (hE6.ext hA))
          have HBB6 := hid (HBB5.out.keep (hE6.ext hA) id)
          clear hca hxa hE6 hA HA5 HB5 HE5 HBA5 HBB5 x0 x1 x2 x3 x4 x5 x6 x7 y0 y1 y2 y3 y4 y5 y6 y7
          have y0 := HBB6.out.cell 0
          have y1 := HBB6.out.cell 1
          have y2 := HBB6.out.cell 2
          have y3 := HBB6.out.cell 3
          have y4 := HBB6.out.cell 4
          have y5 := HBB6.out.cell 5
          have y6 := HBB6.out.cell 6
          have y7 := HBB6.out.cell 7
          simp at y0 y1 y2 y3 y4 y5 y6 y7
          go_wp2_with fail
          generalize W6.alloc (.cells #[U8 a.kind, .slice Pa pa qa, .string a.key, .int .i64 a.i, .int .i64 a.j, .int .i64 a.n, U8 xa.kind, .int .i64 xa.n, .string xa.s, .slice La la ma, .slice Oa oa ra, .string a.s] TCMP) = W7 at *
          refine (comp6_ok W7 _ _ b HB6.out).mono ?_
          rintro e W8 ⟨xb, pb, qb, lb, mb, ob, rb, Pb, Lb, Ob, rfl, hxb, hcb, hE8⟩
          have hA : Ext W8 (W8.alloc (.cells #[U8 b.kind, .slice Pb pb qb, .string b.key, .int .i64 b.i, .int .i64 b.j, .int .i64 b.n, U8 xb.kind, .int .i64 xb.n, .string xb.s, .slice Lb lb mb, .slice Ob ob rb, .string b.s] TCMP)) := (Keep.refl _ _).alloc _
          have HYB := hid (Blk.new W8 TCMP #[U8 b.kind, .slice Pb pb qb, .string b.key, .int .i64 b.i, .int .i64 b.j, .int .i64 b.n, U8 xb.kind, .int .i64 xb.n, .string xb.s, .slice Lb lb mb, .slice Ob ob rb, .string b.s])
          have HCB := hid (hcb.ext hA)
          have HXX := hid hxb
          have HCA8 := hid (HCA.out.ext (hE8.ext hA))
          have HXB8 := hid (HXB.out.keep (hE8.ext hA) id)
          have HE8 := hid (HE6.out.ext (hE8.ext hA))
          clear hcb hxb hE8 hA HB6 HE6 HBB6 HCA HXB y0 y1 y2 y3 y4 y5 y6 y7
          have x0 := HXB8.out.cell 0
          have x1 := HXB8.out.cell 1
          have x2 := HXB8.out.cell 2
          have x3 := HXB8.out.cell 3
          have x4 := HXB8.out.cell 4
          have x5 := HXB8.out.cell 5
          have x6 := HXB8.out.cell 6
          have x7 := HXB8.out.cell 7
          have x8 := HXB8.out.cell 8
          have x9 := HXB8.out.cell 9
          have x10 := HXB8.out.cell 10
          have x11 := HXB8.out.cell 11
          simp at x0 x1 x2 x3 x4 x5 x6 x7 x8 x9 x10 x11
          go_wp2_with fail
          generalize W8.alloc (.cells #[U8 b.kind, .slice Pb pb qb, .string b.key, .int .i64 b.i, .int .i64 b.j, .int .i64 b.n, U8 xb.kind, .int .i64 xb.n, .string xb.s, .slice Lb lb mb, .slice Ob ob rb, .string b.s] TCMP) = W9 at *
          refine (rcopy6 W9 _ _ (brCp a xa) HCA8.out (br_bd FA.out BA.out HXA.out).2.1 (br_bd FA.out BA.out HXA.out).2.2).mono ?_
          rintro e W10 ⟨pvc, lvc, ovc, rfl, g1, g2, g3, hE10⟩
          obtain ⟨Ra, ya, rfl, _⟩ := g1.shape
          obtain ⟨Ta, za, rfl, _⟩ := g2.shape
          obtain ⟨Ua, va, rfl, _⟩ := g3.shape
          have hA : Ext W10 (W10.alloc (.cells #[U8 a.kind, .slice Ra a.path.length ya, .string a.key, .int .i64 a.i, .int .i64 a.j, .int .i64 a.n, U8 xa.kind, .int .i64 xa.n, .string xa.s, .slice Ta xa.l.length za, .slice Ua xa.o.length va, .string a.s] TCMP)) := (Keep.refl _ _).alloc _
          have HPB := hid (Blk.new W10 TCMP #[U8 a.kind, .slice Ra a.path.length ya, .string a.key, .int .i64 a.i, .int .i64 a.j, .int .i64 a.n, U8 xa.kind, .int .i64 xa.n, .string xa.s, .slice Ta xa.l.length za, .slice Ua xa.o.length va, .string a.s])
          have HCP := hid (show CAt (W10.alloc (.cells #[U8 a.kind, .slice Ra a.path.length ya, .string a.key, .int .i64 a.i, .int .i64 a.j, .int .i64 a.n, U8 xa.kind, .int .i64 xa.n, .string xa.s, .slice Ta xa.l.length za, .slice Ua xa.o.length va, .string a.s] TCMP)) (fun _ => True) (.agg #[U8 a.kind, .slice Ra a.path.length ya, .string a.key, .int .i64 a.i, .int .i64 a.j, .int .i64 a.n, U8 xa.kind, .int .i64 xa.n, .string xa.s, .slice Ta xa.l.length za, .slice Ua xa.o.length va, .string a.s]) (brCp a xa) from ⟨_, _, _, rfl, (((g1.sl ESt.ok).more (S' := fun _ => True) ESt.ok fun _ _ _ => trivial).ext ESt.ok hA), ((g2.more (S' := fun _ => True) EVal.ok fun _ _ _ => trivial).ext EVal.ok hA), ((g3.more (S' := fun _ => True) EField.ok fun _ _ _ => trivial).ext EField.ok hA)⟩)
          have HCA10 := hid (HCA8.out.ext (hE10.ext hA))
          have HXB10 := hid (HXB8.out.keep (hE10.ext hA) id)
          have HCB10 := hid (HCB.out.ext (hE10.ext hA))
          have HYB10 := hid (HYB.out.keep (hE10.ext hA) id)
          have HE10 := hid (HE8.out.ext (hE10.ext hA))
          clear g1 g2 g3 hE10 hA HCA8 HXB8 HCB HYB HE8 x0 x1 x2 x3 x4 x5 x6 x7 x8 x9 x10 x11
          have y0 := HYB10.out.cell 0
          have y1 := HYB10.out.cell 1
          have y2 := HYB10.out.cell 2
          have y3 := HYB10.out.cell 3
          have y4 := HYB10.out.cell 4
          have y5 := HYB10.out.cell 5
          have y6 := HYB10.out.cell 6
          have y7 := HYB10.out.cell 7
          have y8 := HYB10.out.cell 8
          have y9 := HYB10.out.cell 9
          have y10 := HYB10.out.cell 10
          have y11 := HYB10.out.cell 11
          simp at y0 y1 y2 y3 y4 y5 y6 y7 y8 y9 y10 y11
          go_wp2_with fail
          generalize W10.alloc (.cells #[U8 a.kind, .slice Ra a.path.length ya, .string a.key, .int .i64 a.i, .int .i64 a.j, .int .i64 a.n, U8 xa.kind, .int .i64 xa.n, .string xa.s, .slice Ta xa.l.length za, .slice Ua xa.o.length va, .string a.s] TCMP) = W11 at *
          refine (rcopy6 W11 _ _ (brCp b xb) HCB10.out (br_bd FB.out BB_.out HXX.out).2.1 (br_bd FB.out BB_.out HXX.out).2.2).mono ?_
          rintro e W12 ⟨pvd, lvd, ovd, rfl, g1, g2, g3, hE12⟩
          obtain ⟨Rb, yb, rfl, _⟩ := g1.shape
          obtain ⟨Tb, zb, rfl, _⟩ := g2.shape
          obtain ⟨Ub, vb, rfl, _⟩ := g3.shape
          have hA : Ext W12 (W12.alloc (.cells #[U8 b.kind, .slice Rb b.path.length yb, .string b.key, .int .i64 b.i, .int .i64 b.j, .int .i64 b.n, U8 xb.kind, .int .i64 xb.n, .string xb.s, .slice Tb xb.l.length zb, .slice Ub xb.o.length vb, .string b.s] TCMP)) := (Keep.refl _ _).alloc _
          have HQB := hid (Blk.new W12 TCMP #[U8 b.kind, .slice Rb b.path.length yb, .string b.key, .int .i64 b.i, .int .i64 b.j, .int .i64 b.n, U8 xb.kind, .int .i64 xb.n, .string xb.s, .slice Tb xb.l.length zb, .slice Ub xb.o.length vb, .string b.s])
          have HCQ := hid (show CAt (W12.alloc (.cells #[U8 b.kind, .slice Rb b.path.length yb, .string b.key, .int .i64 b.i, .int .i64 b.j, .int .i64 b.n, U8 xb.kind, .int .i64 xb.n, .string xb.s, .slice Tb xb.l.length zb, .slice Ub xb.o.length vb, .string b.s] TCMP)) (fun _ => True) (.agg #[U8 b.kind, .slice Rb b.path.length yb, .string b.key, .int .i64 b.i, .int .i64 b.j, .int .i64 b.n, U8 xb.kind, .int .i64 xb.n, .string xb.s, .slice Tb xb.l.length zb, .slice Ub xb.o.length vb, .string b.s]) (brCp b xb) from ⟨_, _, _, rfl, (((g1.sl ESt.ok).more (S' := fun _ => True) ESt.ok fun _ _ _ => trivial).ext ESt.ok hA), ((g2.more (S' := fun _ => True) EVal.ok fun _ _ _ => trivial).ext EVal.ok hA), ((g3.more (S' := fun _ => True) EField.ok fun _ _ _ => trivial).ext EField.ok hA)⟩)
          have HCA12 := hid (HCA10.out.ext (hE12.ext hA))
          have HXB12 := hid (HXB10.out.keep (hE12.ext hA) id)
          have HCB12 := hid (HCB10.out.ext (hE12.ext hA))
          have HYB12 := hid (HYB10.out.keep (hE12.ext hA) id)
          have HCP12 := hid (HCP.out.ext (hE12.ext hA))
          have HPB12 := hid (HPB.out.keep (hE12.ext hA) id)
          have HE12 := hid (HE10.out.ext (hE12.ext hA))
          clear g1 g2 g3 hE12 hA HCA10 HXB10 HCB10 HYB10 HE10 HCP HPB y0 y1 y2 y3 y4 y5 y6 y7 y8 y9 y10 y11
          go_wp2_with fail
          generalize W12.alloc (.cells #[U8 b.kind, .slice Rb b.path.length yb, .string b.key, .int .i64 b.i, .int .i64 b.j, .int .i64 b.n, U8 xb.kind, .int .i64 xb.n, .string xb.s, .slice Tb xb.l.length zb, .slice Ub xb.o.length vb, .string b.s] TCMP) = W13 at *
          have HBX := hid (br_bd FA.out BA.out HXA.out)
          have HBY := hid (br_bd FB.out BB_.out HXX.out)
          have HD13 := hid (HD.out.ext HE12.out)
          have x0 := HXB12.out.cell 0
          have x1 := HXB12.out.cell 1
          have x2 := HXB12.out.cell 2
          have x3 := HXB12.out.cell 3
          have x4 := HXB12.out.cell 4
          have x5 := HXB12.out.cell 5
          have x6 := HXB12.out.cell 6
          have x7 := HXB12.out.cell 7
          have x8 := HXB12.out.cell 8
          have x9 := HXB12.out.cell 9
          have x10 := HXB12.out.cell 10
          have x11 := HXB12.out.cell 11
          simp at x0 x1 x2 x3 x4 x5 x6 x7 x8 x9 x10 x11
          have y0 := HYB12.out.cell 0
          have y1 := HYB12.out.cell 1
          have y2 := HYB12.out.cell 2
          have y3 := HYB12.out.cell 3
          have y4 := HYB12.out.cell 4
          have y5 := HYB12.out.cell 5
          have y6 := HYB12.out.cell 6
          have y7 := HYB12.out.cell 7
          have y8 := HYB12.out.cell 8
          have y9 := HYB12.out.cell 9
          have y10 := HYB12.out.cell 10
          have y11 := HYB12.out.cell 11
          simp at y0 y1 y2 y3 y4 y5 y6 y7 y8 y9 y10 y11
          have p0 := HPB12.out.cell 0
          have p1 := HPB12.out.cell 1
          have p2 := HPB12.out.cell 2
          have p3 := HPB12.out.cell 3
          have p4 := HPB12.out.cell 4
          have p5 := HPB12.out.cell 5
          have p6 := HPB12.out.cell 6
          have p7 := HPB12.out.cell 7
          have p8 := HPB12.out.cell 8
          have p9 := HPB12.out.cell 9
          have p10 := HPB12.out.cell 10
          have p11 := HPB12.out.cell 11
          simp at p0 p1 p2 p3 p4 p5 p6 p7 p8 p9 p10 p11
          have q0 := HQB.out.cell 0
          have q1 := HQB.out.cell 1
          have q2 := HQB.out.cell 2
          have q3 := HQB.out.cell 3
          have q4 := HQB.out.cell 4
          have q5 := HQB.out.cell 5
          have q6 := HQB.out.cell 6
          have q7 := HQB.out.cell 7
          have q8 := HQB.out.cell 8
          have q9 := HQB.out.cell 9
          have q10 := HQB.out.cell 10
          have q11 := HQB.out.cell 11
          simp at q0 q1 q2 q3 q4 q5 q6 q7 q8 q9 q10 q11
          clear FA FB BA BB_ HXA HXX HD
          obtain ⟨bb, hbb⟩ : ∃ bb : Bool, bb = true ↔ (brCp b xb).path <+: (brCp a xa).path := by
            by_cases h : (brCp b xb).path <+: (brCp a xa).path
            · exact ⟨true, by simp [h]⟩
            · exact ⟨false, by simp [h]⟩
          have HPB := hid hbb
          clear hbb
          refine wp_region_grow (specOf [(3, ListAt (turnC bb (brCp a xa) (brCp b xb) left)), (7, ListAt (turnC bb (brCp a xa) (brCp b xb) left)), (8, fun v w' => v = .bool true), (12, fun v w' => v = .bool true), (17, fun v w' => v = .bool true)]) (fun w' => Ext W13 w') (stable_cons (fun v w w' h he => ListAt.ext h he) (stable_cons (fun v w w' h he => ListAt.ext h he) (stable_cons (fun v w w' h he => h) (stable_cons (fun v w w' h he => h) (stable_cons (fun v w w' h he => h) stable_nil))))) (stableC_ext _) (by kernel_rfl) (by kernel_rfl) (Keep.drew (Keep.refl _ _)) ?_
          iterate 3
            (try simp only [Act.put, List.setIfInBounds_toArray, List.set_cons_zero, List.set_cons_succ])
            refine grow_run rfl rfl rfl ?_
            apply Exists.intro
            refine ⟨fun w' hC hK => ?_, ?_⟩
            · have x0 := (hC.cell (lt_of_cell x0) id).trans x0
              have x1 := (hC.cell (lt_of_cell x1) id).trans x1
              have x2 := (hC.cell (lt_of_cell x2) id).trans x2
              have x3 := (hC.cell (lt_of_cell x3) id).trans x3
              have x4 := (hC.cell (lt_of_cell x4) id).trans x4
              have x5 := (hC.cell (lt_of_cell x5) id).trans x5
              have x6 := (hC.cell (lt_of_cell x6) id).trans x6
              have x7 := (hC.cell (lt_of_cell x7) id).trans x7
              have x8 := (hC.cell (lt_of_cell x8) id).trans x8
              have x9 := (hC.cell (lt_of_cell x9) id).trans x9
              have x10 := (hC.cell (lt_of_cell x10) id).trans x10
              have x11 := (hC.cell (lt_of_cell x11) id).trans x11
              have y0 := (hC.cell (lt_of_cell y0) id).trans y0
              have y1 := (hC.cell (lt_of_cell y1) id).trans y1
              have y2 := (hC.cell (lt_of_cell y2) id).trans y2
              have y3 := (hC.cell (lt_of_cell y3) id).trans y3
              have y4 := (hC.cell (lt_of_cell y4) id).trans y4
              have y5 := (hC.cell (lt_of_cell y5) id).trans y5
              have y6 := (hC.cell (lt_of_cell y6) id).trans y6
              have y7 := (hC.cell (lt_of_cell y7) id).trans y7
              have y8 := (hC.cell (lt_of_cell y8) id).trans y8
              have y9 := (hC.cell (lt_of_cell y9) id).trans y9
              have y10 := (hC.cell (lt_of_cell y10) id).trans y10
              have y11 := (hC.cell (lt_of_cell y11) id).trans y11
              go_simp
              rfl
          (try simp only [Act.put, List.setIfInBounds_toArray, List.set_cons_zero, List.set_cons_succ])
          refine grow_eff rfl rfl rfl (fun w' hC hK => ?_) (fun v3 hv3 => ?_)
          · have hcall := turn_list w' _ _ _ _ (brCp a xa) (brCp b xb) left (HCA12.out.ext hC) (HCB12.out.ext hC) HBX.out.2 HBX.out.1 HBY.out.1 bb HPB.out
            unfold growAt
            go_simp
            refine grow_call (hcall.mono ?_)
            intro e w'' h
            obtain ⟨v, rfl, h2, h3⟩ := h.at_
            exact ⟨_, rfl, h2, h3⟩
          obtain ⟨_, _, A3, n3, c3, rfl, _⟩ := hv3.head
          iterate 3
            (try simp only [Act.put, List.setIfInBounds_toArray, List.set_cons_zero, List.set_cons_succ])
            refine grow_run rfl rfl rfl ?_
            apply Exists.intro
            refine ⟨fun w' hC hK => ?_, ?_⟩
            · have p0 := (hC.cell (lt_of_cell p0) id).trans p0
              have p1 := (hC.cell (lt_of_cell p1) id).trans p1
              have p2 := (hC.cell (lt_of_cell p2) id).trans p2
              have p3 := (hC.cell (lt_of_cell p3) id).trans p3
              have p4 := (hC.cell (lt_of_cell p4) id).trans p4
              have p5 := (hC.cell (lt_of_cell p5) id).trans p5
              have p6 := (hC.cell (lt_of_cell p6) id).trans p6
              have p7 := (hC.cell (lt_of_cell p7) id).trans p7
              have p8 := (hC.cell (lt_of_cell p8) id).trans p8
              have p9 := (hC.cell (lt_of_cell p9) id).trans p9
              have p10 := (hC.cell (lt_of_cell p10) id).trans p10
              have p11 := (hC.cell (lt_of_cell p11) id).trans p11
              have q0 := (hC.cell (lt_of_cell q0) id).trans q0
              have q1 := (hC.cell (lt_of_cell q1) id).trans q1
              have q2 := (hC.cell (lt_of_cell q2) id).trans q2
              have q3 := (hC.cell (lt_of_cell q3) id).trans q3
              have q4 := (hC.cell (lt_of_cell q4) id).trans q4
              have q5 := (hC.cell (lt_of_cell q5) id).trans q5
              have q6 := (hC.cell (lt_of_cell q6) id).trans q6
              have q7 := (hC.cell (lt_of_cell q7) id).trans q7
              have q8 := (hC.cell (lt_of_cell q8) id).trans q8
              have q9 := (hC.cell (lt_of_cell q9) id).trans q9
              have q10 := (hC.cell (lt_of_cell q10) id).trans q10
              have q11 := (hC.cell (lt_of_cell q11) id).trans q11
              go_simp
              rfl
          (try simp only [Act.put, List.setIfInBounds_toArray, List.set_cons_zero, List.set_cons_succ])
          refine grow_eff rfl rfl rfl (fun w' hC hK => ?_) (fun v7 hv7 => ?_)
          · have hcall := rturn7_list w' _ _ _ _ (brCp a xa) (brCp b xb) left (HCP12.out.ext hC) (HCQ.out.ext hC) HBX.out.2 HBX.out.1 HBY.out.1 bb HPB.out (HD13.out.ext hC)
            unfold growAt
            go_simp
            refine grow_call (hcall.mono ?_)
            intro e w'' h
            obtain ⟨v, rfl, h2, h3⟩ := h.at_
            exact ⟨_, rfl, h2, h3⟩
          obtain ⟨_, _, A7, n7, c7, rfl, _⟩ := hv7.head
          (try simp only [Act.put, List.setIfInBounds_toArray, List.set_cons_zero, List.set_cons_succ])
          refine grow_eff rfl rfl rfl (fun w' hC hK => ?_) (fun v8 hv8 => ?_)
          · have f3 : ListAt (turnC bb (brCp a xa) (brCp b xb) left) (.slice A3 n3 c3) w' := hK.get (i := 3) (List.mem_cons_of_mem _ List.mem_cons_self) (by kernel_rfl)
            have f7 : ListAt (turnC bb (brCp a xa) (brCp b xb) left) (.slice A7 n7 c7) w' := hK.get (i := 7) List.mem_cons_self (by kernel_rfl)
            have hcall := same_list f3 f7
            clear f3 f7 hK
            unfold growAt
            go_simp
            refine grow_call (hcall.mono ?_)
            rintro e w'' ⟨rfl, h2⟩
            exact ⟨_, rfl, h2, rfl⟩
          obtain ⟨_, _, rfl⟩ := hv8.head
          iterate 3
            (try simp only [Act.put, List.setIfInBounds_toArray, List.set_cons_zero, List.set_cons_succ])
            refine grow_run rfl rfl rfl ?_
            apply Exists.intro
            refine ⟨fun w' hC hK => ?_, ?_⟩
            · have x0 := (hC.cell (lt_of_cell x0) id).trans x0
              have x1 := (hC.cell (lt_of_cell x1) id).trans x1
              have x2 := (hC.cell (lt_of_cell x2) id).trans x2
              have x3 := (hC.cell (lt_of_cell x3) id).trans x3
              have x4 := (hC.cell (lt_of_cell x4) id).trans x4
              have x5 := (hC.cell (lt_of_cell x5) id).trans x5
              have x6 := (hC.cell (lt_of_cell x6) id).trans x6
              have x7 := (hC.cell (lt_of_cell x7) id).trans x7
              have x8 := (hC.cell (lt_of_cell x8) id).trans x8
              have x9 := (hC.cell (lt_of_cell x9) id).trans x9
              have x10 := (hC.cell (lt_of_cell x10) id).trans x10
              have x11 := (hC.cell (lt_of_cell x11) id).trans x11
              have p0 := (hC.cell (lt_of_cell p0) id).trans p0
              have p1 := (hC.cell (lt_of_cell p1) id).trans p1
              have p2 := (hC.cell (lt_of_cell p2) id).trans p2
              have p3 := (hC.cell (lt_of_cell p3) id).trans p3
              have p4 := (hC.cell (lt_of_cell p4) id).trans p4
              have p5 := (hC.cell (lt_of_cell p5) id).trans p5
              have p6 := (hC.cell (lt_of_cell p6) id).trans p6
              have p7 := (hC.cell (lt_of_cell p7) id).trans p7
              have p8 := (hC.cell (lt_of_cell p8) id).trans p8
              have p9 := (hC.cell (lt_of_cell p9) id).trans p9
              have p10 := (hC.cell (lt_of_cell p10) id).trans p10
              have p11 := (hC.cell (lt_of_cell p11) id).trans p11
              go_simp
              rfl
          (try simp only [Act.put, List.setIfInBounds_toArray, List.set_cons_zero, List.set_cons_succ])
          refine grow_eff rfl rfl rfl (fun w' hC hK => ?_) (fun v12 hv12 => ?_)
          · have hcall := rsame06_yes w' _ _ _ _ (brCp a xa) (HCA12.out.ext hC) (HCP12.out.ext hC)
            unfold growAt
            go_simp
            refine grow_call (hcall.mono ?_)
            rintro e w'' ⟨rfl, h2⟩
            exact ⟨_, rfl, h2, rfl⟩
          obtain ⟨_, _, rfl⟩ := hv12.head
          iterate 4
            (try simp only [Act.put, List.setIfInBounds_toArray, List.set_cons_zero, List.set_cons_succ])
            refine grow_run rfl rfl rfl ?_
            apply Exists.intro
            refine ⟨fun w' hC hK => ?_, ?_⟩
            · have y0 := (hC.cell (lt_of_cell y0) id).trans y0
              have y1 := (hC.cell (lt_of_cell y1) id).trans y1
              have y2 := (hC.cell (lt_of_cell y2) id).trans y2
              have y3 := (hC.cell (lt_of_cell y3) id).trans y3
              have y4 := (hC.cell (lt_of_cell y4) id).trans y4
              have y5 := (hC.cell (lt_of_cell y5) id).trans y5
              have y6 := (hC.cell (lt_of_cell y6) id).trans y6
              have y7 := (hC.cell (lt_of_cell y7) id).trans y7
              have y8 := (hC.cell (lt_of_cell y8) id).trans y8
              have y9 := (hC.cell (lt_of_cell y9) id).trans y9
              have y10 := (hC.cell (lt_of_cell y10) id).trans y10
              have y11 := (hC.cell (lt_of_cell y11) id).trans y11
              have q0 := (hC.cell (lt_of_cell q0) id).trans q0
              have q1 := (hC.cell (lt_of_cell q1) id).trans q1
              have q2 := (hC.cell (lt_of_cell q2) id).trans q2
              have q3 := (hC.cell (lt_of_cell q3) id).trans q3
              have q4 := (hC.cell (lt_of_cell q4) id).trans q4
              have q5 := (hC.cell (lt_of_cell q5) id).trans q5
              have q6 := (hC.cell (lt_of_cell q6) id).trans q6
              have q7 := (hC.cell (lt_of_cell q7) id).trans q7
              have q8 := (hC.cell (lt_of_cell q8) id).trans q8
              have q9 := (hC.cell (lt_of_cell q9) id).trans q9
              have q10 := (hC.cell (lt_of_cell q10) id).trans q10
              have q11 := (hC.cell (lt_of_cell q11) id).trans q11
              go_simp
              rfl
          (try simp only [Act.put, List.setIfInBounds_toArray, List.set_cons_zero, List.set_cons_succ])
          refine grow_eff rfl rfl rfl (fun w' hC hK => ?_) (fun v17 hv17 => ?_)
          · have hcall := rsame06_yes w' _ _ _ _ (brCp b xb) (HCB12.out.ext hC) (HCQ.out.ext hC)
            unfold growAt
            go_simp
            refine grow_call (hcall.mono ?_)
            rintro e w'' ⟨rfl, h2⟩
            exact ⟨_, rfl, h2, rfl⟩
          obtain ⟨_, _, rfl⟩ := hv17.head
          iterate 2
            (try simp only [Act.put, List.setIfInBounds_toArray, List.set_cons_zero, List.set_cons_succ])
            refine grow_run rfl rfl rfl ?_
            apply Exists.intro
            refine ⟨fun w' hC hK => ?_, ?_⟩
            · go_simp
              rfl
          refine grow_nil fun w2 hC hK => ?_
          have HC := hid (show Ext W13 w2 from hC)
          clear hC hK
          go_wp2
          go_ret
          exact ⟨rfl, HE12.out.ext HC.out⟩
end Go.Proofs.YtioplgfopillnaaDoor

/- TurnTurns's walk made ready for the lifting; the laid tables. -/
set_option linter.unusedSimpArgs false
set_option linter.unusedVariables false
namespace Go.Proofs.YtioplgfopillnaaDoor
open Go.ChangeShapes Go.WideShapes Go.ChangeAt Go.RowKit Go.Deep
set_option linter.unusedVariables false
theorem dec_laid {w0 : World} {l : List (String × DataW Unit)} (h : laidMetH Tryd.prog l w0) (hp : l = [("unicode/utf8.acceptRanges", Rows.laid_unicode_utf8_acceptRanges), ("unicode/utf8.first", Rows.laid_unicode_utf8_first)]) : DecAny w0 := by
  subst hp
  rw [MakeChecks.laidMetH_plain _ _ _ (by kernel_rfl)] at h
  have e1 : (Rows.laid_unicode_utf8_first : DataW Unit) = Lib.firstData := by kernel_rfl
  have e2 : (Rows.laid_unicode_utf8_acceptRanges : DataW Unit) = Lib.acceptData := by kernel_rfl
  have h3 : Lib.VarReads Tryd.prog w0 "unicode/utf8.first" Lib.firstData := by rw [← e1]; exact Lib.laidMet.reads h (.tail _ (.head _))
  have h4 : Lib.VarReads Tryd.prog w0 "unicode/utf8.acceptRanges" Lib.acceptData := by rw [← e2]; exact Lib.laidMet.reads h (.head _)
  exact dec_any (utf8Tabs_of_readsT { Tryd.laysDR with } ⟨by kernel_rfl, by kernel_rfl, by kernel_rfl, by kernel_rfl, by kernel_rfl, by kernel_rfl, by kernel_rfl⟩ h3 h4)
theorem turns07_lift (cs : Array Value) (a : Br) (ds : Array Value) (b : Br) (left : Bool) (w : World) (h1 : EBr.rd w (fun k => k < w.heap.size) cs.toList a) (q1 : BrOk a) (h2 : EBr.rd w (fun k => k < w.heap.size) ds.toList b) (q2 : BrOk b) (hD : DecAny w) :
    Calls Tryd.prog 3 #[.agg cs, .agg ds, .bool left] w fun e w' => e = .returned (.bool true) ∧ Below w.heap.size w w' := by
  obtain ⟨p1, v1, e1, a1, a2⟩ := h1
  obtain ⟨p2, v2, e2, b1, b2⟩ := h2
  exact (turns07_ok w _ _ _ _ a b left ⟨p1, v1, by rw [← Array.toArray_toList (xs := cs), e1], a1, a2⟩ ⟨p2, v2, by rw [← Array.toArray_toList (xs := ds), e2], b1, b2⟩ q1 q2 hD).mono fun e w' h => ⟨h.1, h.2.toBelow⟩
end Go.Proofs.YtioplgfopillnaaDoor
