/- Turn of any two components of texts is what the chapter says: the walk. -/
import Derived.Test.YtepbodopnndfgaaDoorTextW
set_option linter.unusedSimpArgs false
set_option linter.unusedVariables false
namespace Go.Proofs.YtepbodopnndfgaaDoor
open Go.RowKit
set_option linter.unusedVariables false

abbrev cutV (d : Bool) (i n : Int) (s : ByteArray) : Value := .agg #[.bool d, .int .i64 i, .int .i64 n, .string s]
/-- Components that differ in place and number alone. -/
def TSl (k : UInt8) (s : ByteArray) (l : List (Int × Int)) (v : Value) (w : World) : Prop := ∃ A c, v = .slice A l.length c ∧ Sl (ZT k s) w (fun _ => True) v l
theorem TSl.ext {k : UInt8} {s : ByteArray} {l : List (Int × Int)} {v : Value} {w w' : World} (h : TSl k s l v w) (he : Ext w w') : TSl k s l v w' := by
  obtain ⟨A, c, e, h⟩ := h; exact ⟨A, c, e, h.ext (ZT.ok k s) he⟩
theorem tsl_of {k : UInt8} {s : ByteArray} {l : List (Int × Int)} {w w' : World} {e : Ending} (h : TextIs (U8 k) (.slice none 0 0) (.string ⟨#[]⟩) (.int .i64 0) (U8 0) (.int .i64 0) (.string ⟨#[]⟩) (.slice none 0 0) (.slice none 0 0) (.string s) w l e w') : ∃ v, e = .returned v ∧ Ext w w' ∧ TSl k s l v w' := by
  obtain ⟨v, rfl, h1, h2⟩ := h
  obtain ⟨A, c, rfl, _⟩ := h1.shape
  exact ⟨_, rfl, h2, A, c, rfl, h1.more (ZT.ok k s) fun _ _ _ => trivial⟩

theorem same_tsl (k : UInt8) (s : ByteArray) (l : List (Int × Int)) (u v : Value) (w : World) (hu : TSl k s l u w) (hv : TSl k s l v w) :
    Calls Tryd.prog 8 #[u, v] w fun e w' => e = .returned (.bool true) ∧ Ext w w' := by
  obtain ⟨_, _, _, g1⟩ := hu
  obtain ⟨_, _, _, g2⟩ := hv
  exact same04_zt k s l _ _ _ _ w g1 g2

set_option maxRecDepth 100000 in
set_option maxHeartbeats 6400000 in
theorem turns_walk (d1 : Bool) (i1 n1 : Int) (s1 : ByteArray) (d2 : Bool) (i2 n2 : Int) (s2 : ByteArray) (left : Bool) (kind : UInt8) (w : World) (h1 : s1.size ≤ 140737488355328) (h2 : s2.size ≤ 140737488355328) (hD : DecAny w) :
    Calls Tryd.prog 3 #[cutV d1 i1 n1 s1, cutV d2 i2 n2 s2, .bool left, U8 kind] w fun e w' => e = .returned (.bool true) ∧ Ext w w' := by
  obtain ⟨W0, hW0⟩ : ∃ W0, (w.alloc (.cells #[.bool d1, .int .i64 i1, .int .i64 n1, .string s1] 23)).alloc (.cells #[.bool d2, .int .i64 i2, .int .i64 n2, .string s2] 23) = W0 := ⟨_, rfl⟩
  have hE0 : Ext w W0 := by rw [← hW0]; exact ((Keep.refl _ _).alloc _).alloc _
  have ha : Blk W0 w.heap.size 23 #[.bool d1, .int .i64 i1, .int .i64 n1, .string s1] := by rw [← hW0]; exact (Blk.new w _ _).alloc _
  have hb : Blk W0 (w.heap.size + 1) 23 #[.bool d2, .int .i64 i2, .int .i64 n2, .string s2] := by
    have := Blk.new (w.alloc (.cells #[.bool d1, .int .i64 i1, .int .i64 n1, .string s1] 23)) 23 #[.bool d2, .int .i64 i2, .int .i64 n2, .string s2]
    rw [World.size_alloc] at this
    rw [← hW0]; exact this
  have HA := hid ha
  have HB := hid hb
  have HE0 := hid hE0
  have HD := hid hD
  have H1 := hid h1
  have H2 := hid h2
  have a0 := ha.cell 0
  have a1 := ha.cell 1
  have a2 := ha.cell 2
  have a3 := ha.cell 3
  simp only [List.getElem?_toArray, List.getElem?_cons_succ, List.getElem?_cons_zero] at a0 a1 a2 a3
  clear ha hb hE0 hD h1 h2
  have HKN := hid (fun w' => known_any w')
  have b0 := HB.out.cell 0
  have b1 := HB.out.cell 1
  have b2 := HB.out.cell 2
  have b3 := HB.out.cell 3
  simp only [List.getElem?_toArray, List.getElem?_cons_succ, List.getElem?_cons_zero] at b0 b1 b2 b3
  go_enter Tryd.func3, Tryd.ntmps3
  go_wp2_with fail
  refine (far_any d1 i1 n1 s1 H1.out W0).mono ?_
  rintro e W1 ⟨f1, rfl, hf1, hE⟩
  replace a0 := (hE.cell (lt_of_cell a0) id).trans a0
  replace a1 := (hE.cell (lt_of_cell a1) id).trans a1
  replace a2 := (hE.cell (lt_of_cell a2) id).trans a2
  replace a3 := (hE.cell (lt_of_cell a3) id).trans a3
  replace b0 := (hE.cell (lt_of_cell b0) id).trans b0
  replace b1 := (hE.cell (lt_of_cell b1) id).trans b1
  replace b2 := (hE.cell (lt_of_cell b2) id).trans b2
  replace b3 := (hE.cell (lt_of_cell b3) id).trans b3
  have HE1 := hid (HE0.out.ext hE)
  have HF1 := hid hf1
  clear hE hf1 hW0
  cases f1 with
  | true =>
    go_wp2_with fail
    refine (HKN.out W1).mono ?_
    rintro e W2 ⟨rfl, hE⟩
    have HE2 := hid (HE1.out.ext hE)
    clear hE
    go_wp2
    go_ret
    exact ⟨rfl, HE2.out⟩
  | false =>
  go_wp2_with fail
  refine (far_any d2 i2 n2 s2 H2.out W1).mono ?_
  rintro e W2 ⟨f2, rfl, hf2, hE⟩
  replace a0 := (hE.cell (lt_of_cell a0) id).trans a0
  replace a1 := (hE.cell (lt_of_cell a1) id).trans a1
  replace a2 := (hE.cell (lt_of_cell a2) id).trans a2
  replace a3 := (hE.cell (lt_of_cell a3) id).trans a3
  replace b0 := (hE.cell (lt_of_cell b0) id).trans b0
  replace b1 := (hE.cell (lt_of_cell b1) id).trans b1
  replace b2 := (hE.cell (lt_of_cell b2) id).trans b2
  replace b3 := (hE.cell (lt_of_cell b3) id).trans b3
  have HE2 := hid (HE1.out.ext hE)
  have HF2 := hid hf2
  clear hE hf2
  cases f2 with
  | true =>
    go_wp2_with fail
    refine (HKN.out W2).mono ?_
    rintro e W3 ⟨rfl, hE⟩
    have HE3 := hid (HE2.out.ext hE)
    clear hE
    go_wp2
    go_ret
    exact ⟨rfl, HE3.out⟩
  | false =>
  go_wp2_with fail
  refine (below_any d1 i1 n1 s1 W2).mono ?_
  rintro e W3 ⟨f3, rfl, hf3, hE⟩
  replace a0 := (hE.cell (lt_of_cell a0) id).trans a0
  replace a1 := (hE.cell (lt_of_cell a1) id).trans a1
  replace a2 := (hE.cell (lt_of_cell a2) id).trans a2
  replace a3 := (hE.cell (lt_of_cell a3) id).trans a3
  replace b0 := (hE.cell (lt_of_cell b0) id).trans b0
  replace b1 := (hE.cell (lt_of_cell b1) id).trans b1
  replace b2 := (hE.cell (lt_of_cell b2) id).trans b2
  replace b3 := (hE.cell (lt_of_cell b3) id).trans b3
  have HE3 := hid (HE2.out.ext hE)
  have HF3 := hid hf3
  clear hE hf3
  cases f3 with
  | true =>
    go_wp2_with fail
    refine (HKN.out W3).mono ?_
    rintro e W4 ⟨rfl, hE⟩
    have HE4 := hid (HE3.out.ext hE)
    clear hE
    go_wp2
    go_ret
    exact ⟨rfl, HE4.out⟩
  | false =>
  go_wp2_with fail
  refine (below_any d2 i2 n2 s2 W3).mono ?_
  rintro e W4 ⟨f4, rfl, hf4, hE⟩
  replace a0 := (hE.cell (lt_of_cell a0) id).trans a0
  replace a1 := (hE.cell (lt_of_cell a1) id).trans a1
  replace a2 := (hE.cell (lt_of_cell a2) id).trans a2
  replace a3 := (hE.cell (lt_of_cell a3) id).trans a3
  replace b0 := (hE.cell (lt_of_cell b0) id).trans b0
  replace b1 := (hE.cell (lt_of_cell b1) id).trans b1
  replace b2 := (hE.cell (lt_of_cell b2) id).trans b2
  replace b3 := (hE.cell (lt_of_cell b3) id).trans b3
  have HE4 := hid (HE3.out.ext hE)
  have HF4 := hid hf4
  clear hE hf4
  cases f4 with
  | true =>
    go_wp2_with fail
    refine (HKN.out W4).mono ?_
    rintro e W5 ⟨rfl, hE⟩
    have HE5 := hid (HE4.out.ext hE)
    clear hE
    go_wp2
    go_ret
    exact ⟨rfl, HE5.out⟩
  | false =>
  go_wp2_with fail
  refine (HKN.out W4).mono ?_
  rintro e W5 ⟨rfl, hE⟩
  replace a0 := (hE.cell (lt_of_cell a0) id).trans a0
  replace a1 := (hE.cell (lt_of_cell a1) id).trans a1
  replace a2 := (hE.cell (lt_of_cell a2) id).trans a2
  replace a3 := (hE.cell (lt_of_cell a3) id).trans a3
  replace b0 := (hE.cell (lt_of_cell b0) id).trans b0
  replace b1 := (hE.cell (lt_of_cell b1) id).trans b1
  replace b2 := (hE.cell (lt_of_cell b2) id).trans b2
  replace b3 := (hE.cell (lt_of_cell b3) id).trans b3
  have HE5 := hid (HE4.out.ext hE)
  clear hE
  go_wp2_with fail
  refine (comp_any d1 i1 n1 s1 W5).mono ?_
  rintro e W6 ⟨rfl, hE⟩
  replace b0 := (hE.cell (lt_of_cell b0) id).trans b0
  replace b1 := (hE.cell (lt_of_cell b1) id).trans b1
  replace b2 := (hE.cell (lt_of_cell b2) id).trans b2
  replace b3 := (hE.cell (lt_of_cell b3) id).trans b3
  have HE6 := hid (HE5.out.ext hE)
  clear hE a0 a1 a2 a3
  have HQ := hid (show ∃ (k1 : UInt8) (m1 : Int) (t1 : ByteArray), compV d1 i1 n1 s1 = zc k1 i1 m1 t1 ∧ Tm i1 ∧ Tm m1 ∧ t1.size ≤ 300 from by
    obtain ⟨_, q2, _, q4, q5⟩ := HF1.out trivial
    obtain ⟨r1, r2⟩ := HF3.out trivial
    unfold compV
    cases d1
    · exact ⟨8, 0, s1, rfl, ⟨r1, by omega⟩, ⟨by decide, by decide⟩, q5⟩
    · exact ⟨9, n1, ⟨#[]⟩, rfl, ⟨r1, by omega⟩, ⟨r2, by omega⟩, by decide⟩)
  have HQ2 := hid (show ∃ (k2 : UInt8) (m2 : Int) (t2 : ByteArray), compV d2 i2 n2 s2 = zc k2 i2 m2 t2 ∧ Tm i2 ∧ Tm m2 ∧ t2.size ≤ 300 from by
    obtain ⟨_, q2, _, q4, q5⟩ := HF2.out trivial
    obtain ⟨r1, r2⟩ := HF4.out trivial
    unfold compV
    cases d2
    · exact ⟨8, 0, s2, rfl, ⟨r1, by omega⟩, ⟨by decide, by decide⟩, q5⟩
    · exact ⟨9, n2, ⟨#[]⟩, rfl, ⟨r1, by omega⟩, ⟨r2, by omega⟩, by decide⟩)
  obtain ⟨k1, m1, t1, hq1, hx1, hy1, hz1⟩ := HQ.out
  obtain ⟨k2, m2, t2, hq2, hx2, hy2, hz2⟩ := HQ2.out
  have HX1 := hid hx1
  have HY1 := hid hy1
  have HX2 := hid hx2
  have HY2 := hid hy2
  have HZ1 := hid hz1
  have HZ2 := hid hz2
  have HC2 := hid (fun w' => comp_any d2 i2 n2 s2 w')
  rw [hq1]
  rw [hq2] at HC2
  clear HQ HQ2 hq1 hq2 hx1 hy1 hz1 hx2 hy2 hz2 HF1 HF2 HF3 HF4
  obtain ⟨Wx, hWx⟩ : ∃ Wx, W6.alloc (.cells #[.int .u8 k1.toNat, .slice none 0 0, .string ⟨#[]⟩, .int .i64 i1, .int .i64 0, .int .i64 m1, .int .u8 0, .int .i64 0, .string ⟨#[]⟩, .slice none 0 0, .slice none 0 0, .string t1] TCOMP) = Wx := ⟨_, rfl⟩
  have hEx : Ext W6 Wx := by rw [← hWx]; exact (Keep.refl _ _).alloc _
  have HXB := hid (show Blk Wx W6.heap.size TCOMP #[.int .u8 k1.toNat, .slice none 0 0, .string ⟨#[]⟩, .int .i64 i1, .int .i64 0, .int .i64 m1, .int .u8 0, .int .i64 0, .string ⟨#[]⟩, .slice none 0 0, .slice none 0 0, .string t1] from by rw [← hWx]; exact Blk.new _ _ _)
  have HEx := hid (HE6.out.ext hEx)
  replace b0 := (hEx.cell (lt_of_cell b0) id).trans b0
  replace b1 := (hEx.cell (lt_of_cell b1) id).trans b1
  replace b2 := (hEx.cell (lt_of_cell b2) id).trans b2
  replace b3 := (hEx.cell (lt_of_cell b3) id).trans b3
  clear hEx
  go_wp2_with fail
  refine (HC2.out Wx).mono ?_
  rintro e W7 ⟨rfl, hE⟩
  have HXB7 := hid (HXB.out.keep hE id)
  have HE7 := hid (HEx.out.ext hE)
  clear hE b0 b1 b2 b3 hWx HXB HEx HC2
  obtain ⟨Wy, hWy⟩ : ∃ Wy, W7.alloc (.cells #[.int .u8 k2.toNat, .slice none 0 0, .string ⟨#[]⟩, .int .i64 i2, .int .i64 0, .int .i64 m2, .int .u8 0, .int .i64 0, .string ⟨#[]⟩, .slice none 0 0, .slice none 0 0, .string t2] TCOMP) = Wy := ⟨_, rfl⟩
  have hEy : Ext W7 Wy := by rw [← hWy]; exact (Keep.refl _ _).alloc _
  have hyb : Blk Wy W7.heap.size TCOMP #[.int .u8 k2.toNat, .slice none 0 0, .string ⟨#[]⟩, .int .i64 i2, .int .i64 0, .int .i64 m2, .int .u8 0, .int .i64 0, .string ⟨#[]⟩, .slice none 0 0, .slice none 0 0, .string t2] := by rw [← hWy]; exact Blk.new _ _ _
  obtain ⟨y0, y1, y2, y3, y4, y5, y6, y7, y8, y9, y10, y11⟩ := blk12 hyb
  obtain ⟨Wz, hWz⟩ : ∃ Wz, Wy.alloc (.cells #[.int .u8 kind.toNat, .slice none 0 0, .string ⟨#[]⟩, .int .i64 i2, .int .i64 0, .int .i64 m2, .int .u8 0, .int .i64 0, .string ⟨#[]⟩, .slice none 0 0, .slice none 0 0, .string t2] TCOMP) = Wz := ⟨_, rfl⟩
  have hEz : Ext Wy Wz := by rw [← hWz]; exact (Keep.refl _ _).alloc _
  have hzb : Blk Wz Wy.heap.size TCOMP #[.int .u8 kind.toNat, .slice none 0 0, .string ⟨#[]⟩, .int .i64 i2, .int .i64 0, .int .i64 m2, .int .u8 0, .int .i64 0, .string ⟨#[]⟩, .slice none 0 0, .slice none 0 0, .string t2] := by rw [← hWz]; exact Blk.new _ _ _
  have HYB := hid (hyb.keep hEz id)
  have HZB := hid hzb
  have HXB := hid ((HXB7.out.keep hEy id).keep hEz id)
  have HEZ := hid ((HE7.out.ext hEy).ext hEz)
  clear hEy hyb hEz hzb HXB7 HE7
  go_wp2_with fail
  clear y0 y1 y2 y3 y4 y5 y6 y7 y8 y9 y10 y11 hWy hWz
  obtain ⟨x0, x1, x2, x3, x4, x5, x6, x7, x8, x9, x10, x11⟩ := blk12 HXB.out
  obtain ⟨y0, y1, y2, y3, y4, y5, y6, y7, y8, y9, y10, y11⟩ := blk12 HYB.out
  obtain ⟨z0, z1, z2, z3, z4, z5, z6, z7, z8, z9, z10, z11⟩ := blk12 HZB.out
  obtain ⟨L1, hL1⟩ : ∃ L1, L1 = tturn k1 i1 m1 k2 i2 m2 (Lib.runeCount t2 : Nat) left := ⟨_, rfl⟩
  obtain ⟨L2, hL2⟩ : ∃ L2, L2 = tturn k1 i1 m1 kind i2 m2 (Lib.runeCount t2 : Nat) left := ⟨_, rfl⟩
  have HL1 := hid hL1
  have HL2 := hid hL2
  clear hL1 hL2 HXB HYB HZB
  refine wp_region_grow (specOf [(3, TSl k1 t1 L1), (7, TSl k1 t1 L1), (8, fun v _ => v = .bool true), (13, TSl k1 t1 L2), (17, TSl k1 t1 L2), (18, fun v _ => v = .bool true)]) (fun w' => Ext Wz w') ?_ (stableC_ext _) (by kernel_rfl) (by kernel_rfl) (Keep.drew (Keep.refl _ _)) ?_
  · exact stable_cons (fun v w w' h he => h.ext he) (stable_cons (fun v w w' h he => h.ext he) (stable_cons (fun v w w' h he => h) (stable_cons (fun v w w' h he => h.ext he) (stable_cons (fun v w w' h he => h.ext he) (stable_cons (fun v w w' h he => h) stable_nil)))))
  iterate 3
    (try simp only [Act.put, List.setIfInBounds_toArray, List.set_cons_zero, List.set_cons_succ])
    refine grow_run rfl rfl rfl ?_
    apply Exists.intro
    refine ⟨fun w' hC hK => ?_, ?_⟩
    · have x0 := (hC.cell (lt_of_cell x0) id).trans x0
      have x1 := (hC.cell (lt_of_cell x1) id).trans x1
      have x2 := (hC.cell (lt_of_cell x2) id).trans x2
      have x3 := (hC.cell (lt_of_cell x3) id).trans x3
      have x4 := (hC.cell (lt_of_cell x4) id).trans x4
      have x5 := (hC.cell (lt_of_cell x5) id).trans x5
      have x6 := (hC.cell (lt_of_cell x6) id).trans x6
      have x7 := (hC.cell (lt_of_cell x7) id).trans x7
      have x8 := (hC.cell (lt_of_cell x8) id).trans x8
      have x9 := (hC.cell (lt_of_cell x9) id).trans x9
      have x10 := (hC.cell (lt_of_cell x10) id).trans x10
      have x11 := (hC.cell (lt_of_cell x11) id).trans x11
      have y0 := (hC.cell (lt_of_cell y0) id).trans y0
      have y1 := (hC.cell (lt_of_cell y1) id).trans y1
      have y2 := (hC.cell (lt_of_cell y2) id).trans y2
      have y3 := (hC.cell (lt_of_cell y3) id).trans y3
      have y4 := (hC.cell (lt_of_cell y4) id).trans y4
      have y5 := (hC.cell (lt_of_cell y5) id).trans y5
      have y6 := (hC.cell (lt_of_cell y6) id).trans y6
      have y7 := (hC.cell (lt_of_cell y7) id).trans y7
      have y8 := (hC.cell (lt_of_cell y8) id).trans y8
      have y9 := (hC.cell (lt_of_cell y9) id).trans y9
      have y10 := (hC.cell (lt_of_cell y10) id).trans y10
      have y11 := (hC.cell (lt_of_cell y11) id).trans y11
      go_simp
      rfl
  (try simp only [Act.put, List.setIfInBounds_toArray, List.set_cons_zero, List.set_cons_succ])
  refine grow_eff rfl rfl rfl (fun w' hC hK => ?_) (fun v3 hv3 => ?_)
  · unfold growAt
    go_simp
    rw [HL1.out]
    refine grow_call ((turn_text k1 none 0 0 ⟨#[]⟩ 0 0 0 ⟨#[]⟩ none 0 0 none 0 0 t1 k2 (.slice none 0 0) (.string ⟨#[]⟩) (.int .i64 0) (.int .u8 0) (.int .i64 0) (.string ⟨#[]⟩) (.slice none 0 0) (.slice none 0 0) t2 i1 m1 i2 m2 left HX1.out HY1.out HX2.out HY2.out (by have := HZ2.out; omega) w').mono fun e w'' h => ?_)
    obtain ⟨v, h1, h2, h3⟩ := tsl_of h
    exact ⟨v, h1, h2, h3⟩
  obtain ⟨_, _, A3, c3, rfl, _⟩ := hv3.head
  iterate 3
    (try simp only [Act.put, List.setIfInBounds_toArray, List.set_cons_zero, List.set_cons_succ])
    refine grow_run rfl rfl rfl ?_
    apply Exists.intro
    refine ⟨fun w' hC hK => ?_, ?_⟩
    · have x0 := (hC.cell (lt_of_cell x0) id).trans x0
      have x1 := (hC.cell (lt_of_cell x1) id).trans x1
      have x2 := (hC.cell (lt_of_cell x2) id).trans x2
      have x3 := (hC.cell (lt_of_cell x3) id).trans x3
      have x4 := (hC.cell (lt_of_cell x4) id).trans x4
      have x5 := (hC.cell (lt_of_cell x5) id).trans x5
      have x6 := (hC.cell (lt_of_cell x6) id).trans x6
      have x7 := (hC.cell (lt_of_cell x7) id).trans x7
      have x8 := (hC.cell (lt_of_cell x8) id).trans x8
      have x9 := (hC.cell (lt_of_cell x9) id).trans x9
      have x10 := (hC.cell (lt_of_cell x10) id).trans x10
      have x11 := (hC.cell (lt_of_cell x11) id).trans x11
      have y0 := (hC.cell (lt_of_cell y0) id).trans y0
      have y1 := (hC.cell (lt_of_cell y1) id).trans y1
      have y2 := (hC.cell (lt_of_cell y2) id).trans y2
      have y3 := (hC.cell (lt_of_cell y3) id).trans y3
      have y4 := (hC.cell (lt_of_cell y4) id).trans y4
      have y5 := (hC.cell (lt_of_cell y5) id).trans y5
      have y6 := (hC.cell (lt_of_cell y6) id).trans y6
      have y7 := (hC.cell (lt_of_cell y7) id).trans y7
      have y8 := (hC.cell (lt_of_cell y8) id).trans y8
      have y9 := (hC.cell (lt_of_cell y9) id).trans y9
      have y10 := (hC.cell (lt_of_cell y10) id).trans y10
      have y11 := (hC.cell (lt_of_cell y11) id).trans y11
      go_simp
      rfl
  (try simp only [Act.put, List.setIfInBounds_toArray, List.set_cons_zero, List.set_cons_succ])
  refine grow_eff rfl rfl rfl (fun w' hC hK => ?_) (fun v7 hv7 => ?_)
  · unfold growAt
    go_simp
    rw [HL1.out]
    refine grow_call ((rturn_text k1 none 0 0 ⟨#[]⟩ 0 0 0 ⟨#[]⟩ none 0 0 none 0 0 t1 k2 (.slice none 0 0) (.string ⟨#[]⟩) (.int .i64 0) (.int .u8 0) (.int .i64 0) (.string ⟨#[]⟩) (.slice none 0 0) (.slice none 0 0) t2 i1 m1 i2 m2 left HX1.out HY1.out HX2.out HY2.out (by have := HZ2.out; omega) w' (HD.out.ext (HEZ.out.ext hC))).mono fun e w'' h => ?_)
    obtain ⟨v, h1, h2, h3⟩ := tsl_of h
    exact ⟨v, h1, h2, h3⟩
  obtain ⟨_, _, A7, c7, rfl, _⟩ := hv7.head
  (try simp only [Act.put, List.setIfInBounds_toArray, List.set_cons_zero, List.set_cons_succ])
  refine grow_eff rfl rfl rfl (fun w' hC hK => ?_) (fun v8 hv8 => ?_)
  · have q1 : TSl k1 t1 L1 (.slice A3 L1.length c3) w' := hK.get (i := 3) (List.mem_cons_of_mem _ List.mem_cons_self) (by kernel_rfl)
    have q2 : TSl k1 t1 L1 (.slice A7 L1.length c7) w' := hK.get (i := 7) List.mem_cons_self (by kernel_rfl)
    have q3 := same_tsl k1 t1 L1 _ _ w' q1 q2
    unfold growAt
    go_simp
    refine grow_call (q3.mono fun e w'' h => ?_)
    exact ⟨_, h.1, h.2, rfl⟩
  obtain ⟨_, _, rfl⟩ := hv8.head
  iterate 4
    (try simp only [Act.put, List.setIfInBounds_toArray, List.set_cons_zero, List.set_cons_succ])
    refine grow_run rfl rfl rfl ?_
    apply Exists.intro
    refine ⟨fun w' hC hK => ?_, ?_⟩
    · have x0 := (hC.cell (lt_of_cell x0) id).trans x0
      have x1 := (hC.cell (lt_of_cell x1) id).trans x1
      have x2 := (hC.cell (lt_of_cell x2) id).trans x2
      have x3 := (hC.cell (lt_of_cell x3) id).trans x3
      have x4 := (hC.cell (lt_of_cell x4) id).trans x4
      have x5 := (hC.cell (lt_of_cell x5) id).trans x5
      have x6 := (hC.cell (lt_of_cell x6) id).trans x6
      have x7 := (hC.cell (lt_of_cell x7) id).trans x7
      have x8 := (hC.cell (lt_of_cell x8) id).trans x8
      have x9 := (hC.cell (lt_of_cell x9) id).trans x9
      have x10 := (hC.cell (lt_of_cell x10) id).trans x10
      have x11 := (hC.cell (lt_of_cell x11) id).trans x11
      have z0 := (hC.cell (lt_of_cell z0) id).trans z0
      have z1 := (hC.cell (lt_of_cell z1) id).trans z1
      have z2 := (hC.cell (lt_of_cell z2) id).trans z2
      have z3 := (hC.cell (lt_of_cell z3) id).trans z3
      have z4 := (hC.cell (lt_of_cell z4) id).trans z4
      have z5 := (hC.cell (lt_of_cell z5) id).trans z5
      have z6 := (hC.cell (lt_of_cell z6) id).trans z6
      have z7 := (hC.cell (lt_of_cell z7) id).trans z7
      have z8 := (hC.cell (lt_of_cell z8) id).trans z8
      have z9 := (hC.cell (lt_of_cell z9) id).trans z9
      have z10 := (hC.cell (lt_of_cell z10) id).trans z10
      have z11 := (hC.cell (lt_of_cell z11) id).trans z11
      go_simp
      rfl
  (try simp only [Act.put, List.setIfInBounds_toArray, List.set_cons_zero, List.set_cons_succ])
  refine grow_eff rfl rfl rfl (fun w' hC hK => ?_) (fun v13 hv13 => ?_)
  · unfold growAt
    go_simp
    rw [HL2.out]
    refine grow_call ((turn_text k1 none 0 0 ⟨#[]⟩ 0 0 0 ⟨#[]⟩ none 0 0 none 0 0 t1 kind (.slice none 0 0) (.string ⟨#[]⟩) (.int .i64 0) (.int .u8 0) (.int .i64 0) (.string ⟨#[]⟩) (.slice none 0 0) (.slice none 0 0) t2 i1 m1 i2 m2 left HX1.out HY1.out HX2.out HY2.out (by have := HZ2.out; omega) w').mono fun e w'' h => ?_)
    obtain ⟨v, h1, h2, h3⟩ := tsl_of h
    exact ⟨v, h1, h2, h3⟩
  obtain ⟨_, _, A13, c13, rfl, _⟩ := hv13.head
  iterate 3
    (try simp only [Act.put, List.setIfInBounds_toArray, List.set_cons_zero, List.set_cons_succ])
    refine grow_run rfl rfl rfl ?_
    apply Exists.intro
    refine ⟨fun w' hC hK => ?_, ?_⟩
    · have x0 := (hC.cell (lt_of_cell x0) id).trans x0
      have x1 := (hC.cell (lt_of_cell x1) id).trans x1
      have x2 := (hC.cell (lt_of_cell x2) id).trans x2
      have x3 := (hC.cell (lt_of_cell x3) id).trans x3
      have x4 := (hC.cell (lt_of_cell x4) id).trans x4
      have x5 := (hC.cell (lt_of_cell x5) id).trans x5
      have x6 := (hC.cell (lt_of_cell x6) id).trans x6
      have x7 := (hC.cell (lt_of_cell x7) id).trans x7
      have x8 := (hC.cell (lt_of_cell x8) id).trans x8
      have x9 := (hC.cell (lt_of_cell x9) id).trans x9
      have x10 := (hC.cell (lt_of_cell x10) id).trans x10
      have x11 := (hC.cell (lt_of_cell x11) id).trans x11
      have z0 := (hC.cell (lt_of_cell z0) id).trans z0
      have z1 := (hC.cell (lt_of_cell z1) id).trans z1
      have z2 := (hC.cell (lt_of_cell z2) id).trans z2
      have z3 := (hC.cell (lt_of_cell z3) id).trans z3
      have z4 := (hC.cell (lt_of_cell z4) id).trans z4
      have z5 := (hC.cell (lt_of_cell z5) id).trans z5
      have z6 := (hC.cell (lt_of_cell z6) id).trans z6
      have z7 := (hC.cell (lt_of_cell z7) id).trans z7
      have z8 := (hC.cell (lt_of_cell z8) id).trans z8
      have z9 := (hC.cell (lt_of_cell z9) id).trans z9
      have z10 := (hC.cell (lt_of_cell z10) id).trans z10
      have z11 := (hC.cell (lt_of_cell z11) id).trans z11
      go_simp
      rfl
  (try simp only [Act.put, List.setIfInBounds_toArray, List.set_cons_zero, List.set_cons_succ])
  refine grow_eff rfl rfl rfl (fun w' hC hK => ?_) (fun v17 hv17 => ?_)
  · unfold growAt
    go_simp
    rw [HL2.out]
    refine grow_call ((rturn_text k1 none 0 0 ⟨#[]⟩ 0 0 0 ⟨#[]⟩ none 0 0 none 0 0 t1 kind (.slice none 0 0) (.string ⟨#[]⟩) (.int .i64 0) (.int .u8 0) (.int .i64 0) (.string ⟨#[]⟩) (.slice none 0 0) (.slice none 0 0) t2 i1 m1 i2 m2 left HX1.out HY1.out HX2.out HY2.out (by have := HZ2.out; omega) w' (HD.out.ext (HEZ.out.ext hC))).mono fun e w'' h => ?_)
    obtain ⟨v, h1, h2, h3⟩ := tsl_of h
    exact ⟨v, h1, h2, h3⟩
  obtain ⟨_, _, A17, c17, rfl, _⟩ := hv17.head
  (try simp only [Act.put, List.setIfInBounds_toArray, List.set_cons_zero, List.set_cons_succ])
  refine grow_eff rfl rfl rfl (fun w' hC hK => ?_) (fun v18 hv18 => ?_)
  · have q1 : TSl k1 t1 L2 (.slice A13 L2.length c13) w' := hK.get (i := 13) (List.mem_cons_of_mem _ List.mem_cons_self) (by kernel_rfl)
    have q2 : TSl k1 t1 L2 (.slice A17 L2.length c17) w' := hK.get (i := 17) List.mem_cons_self (by kernel_rfl)
    have q3 := same_tsl k1 t1 L2 _ _ w' q1 q2
    unfold growAt
    go_simp
    refine grow_call (q3.mono fun e w'' h => ?_)
    exact ⟨_, h.1, h.2, rfl⟩
  obtain ⟨_, _, rfl⟩ := hv18.head

  iterate 2
    (try simp only [Act.put, List.setIfInBounds_toArray, List.set_cons_zero, List.set_cons_succ])
    refine grow_run rfl rfl rfl ?_
    apply Exists.intro
    refine ⟨fun w' hC hK => ?_, ?_⟩
    · go_simp
      rfl
  refine grow_nil ?_
  intro w' hC hK

  go_wp2
  go_ret
  exact ⟨rfl, HEZ.out.ext hC⟩
end Go.Proofs.YtepbodopnndfgaaDoor
