/- The law SeqGone: its walk. -/
import Derived.Test.YtimhfkllamimeaaSeqK
set_option linter.unusedSimpArgs false
set_option linter.unusedVariables false
namespace Go.Proofs.Ytimhfkllamimeaa
open Go.RowKit
set_option linter.unusedVariables false

abbrev TCOMP : Nat := 29
abbrev cmpC (k : UInt8) (i j : Int) : Array Value := #[U8 k, .slice none 0 0, .string ⟨#[]⟩, .int .i64 i, .int .i64 j, .int .i64 0, U8 0, .int .i64 0, .string ⟨#[]⟩, .slice none 0 0, .slice none 0 0, .string ⟨#[]⟩]
theorem u16_bd {a : Int} (h : (Lit.int .u16 a).wf = true) : 0 ≤ a ∧ a < 65536 := by
  have h0 : IntKind.u16.min = 0 := by decide
  have h1 : IntKind.u16.max = 65535 := by decide
  simp [Lit.wf, h0, h1] at h
  omega

set_option maxHeartbeats 12800000 in
theorem gone_walk (a b : Int) (left : Bool) (w : World) (ha : (Lit.int .u16 a).wf = true) (hb : (Lit.int .u16 b).wf = true) :
    Calls Try.prog 3 #[.int .u16 a, .int .u16 b, .bool left] w fun e w' => e = .returned (.bool true) ∧ Below w.heap.size w w' := by
  have ha2 := u16_bd ha
  have hb2 := u16_bd hb
  have ea : IntKind.i64.wrap a = a := IntWalk.i64_in _ (by omega)
  have eb : IntKind.i64.wrap b = b := IntWalk.i64_in _ (by omega)
  have SA := hid (show Sm a from ⟨by omega, by omega⟩)
  have SB := hid (show Sm b from ⟨by omega, by omega⟩)
  have eaa : (a == a) = true := by simp
  have ebb : (b == b) = true := by simp
  have S0 := hid (show Sm 0 from by decide)
  have t1 := hid (show turnL 5 a 0 5 a 0 left = none from by simp [turnL, atL, knownL])
  have t2 := hid (show turnL 6 a 0 5 a 0 left = none from by simp [turnL, atL, knownL])
  have t3 := hid (show turnL 7 a b 5 a 0 left = none from by simp [turnL, moveL, knownL])
  have t4 := hid (show turnL 5 a 0 6 a 0 left = some (a, 0) from by simp [turnL, atL, knownL])
  have t5 := hid (show turnL 5 a 0 7 a b left = some (b, 0) from by simp [turnL, atL, knownL])
  have t6 := hid (show turnL 6 a 0 6 a 0 left = if left then some (a, 0) else none from by cases left <;> simp [turnL, atL, knownL])
  have t7 := hid (show turnL 7 a b 7 a b left = if left then some (b, b) else none from by cases left <;> simp [turnL, moveL, knownL])
  clear ha hb ha2 hb2
  cases left
  all_goals
    go_enter Try.func3, Try.ntmps3
    go_wp2_with fail
    change Calls _ _ #[.agg (cmpC 5 a 0), .agg (cmpC 5 a 0), _] (((w.alloc (.cells (cmpC 5 a 0) TCOMP)).alloc (.cells (cmpC 6 a 0) TCOMP)).alloc (.cells (cmpC 7 a b) TCOMP)) _
    have hb0 : Blk (((w.alloc (.cells (cmpC 5 a 0) TCOMP)).alloc (.cells (cmpC 6 a 0) TCOMP)).alloc (.cells (cmpC 7 a b) TCOMP)) w.heap.size TCOMP (cmpC 5 a 0) := ((Blk.new _ _ _).alloc _).alloc _
    have hb1 : Blk (((w.alloc (.cells (cmpC 5 a 0) TCOMP)).alloc (.cells (cmpC 6 a 0) TCOMP)).alloc (.cells (cmpC 7 a b) TCOMP)) (w.heap.size + 1) TCOMP (cmpC 6 a 0) := by
      have := (Blk.new (w.alloc (.cells (cmpC 5 a 0) TCOMP)) TCOMP (cmpC 6 a 0)).alloc (.cells (cmpC 7 a b) TCOMP)
      rwa [World.size_alloc] at this
    have hb2 : Blk (((w.alloc (.cells (cmpC 5 a 0) TCOMP)).alloc (.cells (cmpC 6 a 0) TCOMP)).alloc (.cells (cmpC 7 a b) TCOMP)) (w.heap.size + 1 + 1) TCOMP (cmpC 7 a b) := by
      have := (Blk.new ((w.alloc (.cells (cmpC 5 a 0) TCOMP)).alloc (.cells (cmpC 6 a 0) TCOMP)) TCOMP (cmpC 7 a b))
      rwa [World.size_alloc, World.size_alloc] at this
    have hE : Ext w (((w.alloc (.cells (cmpC 5 a 0) TCOMP)).alloc (.cells (cmpC 6 a 0) TCOMP)).alloc (.cells (cmpC 7 a b) TCOMP)) := (((Keep.refl _ _).alloc _).alloc _).alloc _
    generalize (((w.alloc (.cells (cmpC 5 a 0) TCOMP)).alloc (.cells (cmpC 6 a 0) TCOMP)).alloc (.cells (cmpC 7 a b) TCOMP)) = w0 at *
    have HB0 := hid hb0
    have HB1 := hid hb1
    have HB2 := hid hb2
    have HE := hid hE
    clear hb0 hb1 hb2 hE
  · refine (turn_any 5 5 _ _ _ _ _ _ _ _ _ _ _ _ _ _ _ _ _ _ a 0 a 0 false _ SA.out S0.out SA.out S0.out).mono ?_
    rintro e w1 ⟨v1, rfl, hE, h⟩
    rw [t1.out] at h
    obtain rfl := h
    replace HB0 := hid (HB0.out.keep hE id)
    replace HB1 := hid (HB1.out.keep hE id)
    replace HB2 := hid (HB2.out.keep hE id)
    replace HE := hid (HE.out.ext hE)
    clear hE
    have r0 := HB0.out.cell 0
    have r1 := HB0.out.cell 1
    have r2 := HB0.out.cell 2
    have r3 := HB0.out.cell 3
    have r4 := HB0.out.cell 4
    have r5 := HB0.out.cell 5
    have r6 := HB0.out.cell 6
    have r7 := HB0.out.cell 7
    have r8 := HB0.out.cell 8
    have r9 := HB0.out.cell 9
    have r10 := HB0.out.cell 10
    have r11 := HB0.out.cell 11
    simp at r0 r1 r2 r3 r4 r5 r6 r7 r8 r9 r10 r11
    have s0 := HB1.out.cell 0
    have s1 := HB1.out.cell 1
    have s2 := HB1.out.cell 2
    have s3 := HB1.out.cell 3
    have s4 := HB1.out.cell 4
    have s5 := HB1.out.cell 5
    have s6 := HB1.out.cell 6
    have s7 := HB1.out.cell 7
    have s8 := HB1.out.cell 8
    have s9 := HB1.out.cell 9
    have s10 := HB1.out.cell 10
    have s11 := HB1.out.cell 11
    simp at s0 s1 s2 s3 s4 s5 s6 s7 s8 s9 s10 s11
    go_wp2_with fail
    clear r0 r1 r2 r3 r4 r5 r6 r7 r8 r9 r10 r11
    clear s0 s1 s2 s3 s4 s5 s6 s7 s8 s9 s10 s11
    refine (turn_any 6 5 _ _ _ _ _ _ _ _ _ _ _ _ _ _ _ _ _ _ a 0 a 0 false _ SA.out S0.out SA.out S0.out).mono ?_
    rintro e w2 ⟨v2, rfl, hE, h⟩
    rw [t2.out] at h
    obtain rfl := h
    replace HB0 := hid (HB0.out.keep hE id)
    replace HB1 := hid (HB1.out.keep hE id)
    replace HB2 := hid (HB2.out.keep hE id)
    replace HE := hid (HE.out.ext hE)
    clear hE
    have m0 := HB2.out.cell 0
    have m1 := HB2.out.cell 1
    have m2 := HB2.out.cell 2
    have m3 := HB2.out.cell 3
    have m4 := HB2.out.cell 4
    have m5 := HB2.out.cell 5
    have m6 := HB2.out.cell 6
    have m7 := HB2.out.cell 7
    have m8 := HB2.out.cell 8
    have m9 := HB2.out.cell 9
    have m10 := HB2.out.cell 10
    have m11 := HB2.out.cell 11
    simp at m0 m1 m2 m3 m4 m5 m6 m7 m8 m9 m10 m11
    have r0 := HB0.out.cell 0
    have r1 := HB0.out.cell 1
    have r2 := HB0.out.cell 2
    have r3 := HB0.out.cell 3
    have r4 := HB0.out.cell 4
    have r5 := HB0.out.cell 5
    have r6 := HB0.out.cell 6
    have r7 := HB0.out.cell 7
    have r8 := HB0.out.cell 8
    have r9 := HB0.out.cell 9
    have r10 := HB0.out.cell 10
    have r11 := HB0.out.cell 11
    simp at r0 r1 r2 r3 r4 r5 r6 r7 r8 r9 r10 r11
    go_wp2_with fail
    clear m0 m1 m2 m3 m4 m5 m6 m7 m8 m9 m10 m11
    clear r0 r1 r2 r3 r4 r5 r6 r7 r8 r9 r10 r11
    refine (turn_any 7 5 _ _ _ _ _ _ _ _ _ _ _ _ _ _ _ _ _ _ a b a 0 false _ SA.out SB.out SA.out S0.out).mono ?_
    rintro e w3 ⟨v3, rfl, hE, h⟩
    rw [t3.out] at h
    obtain rfl := h
    replace HB0 := hid (HB0.out.keep hE id)
    replace HB1 := hid (HB1.out.keep hE id)
    replace HB2 := hid (HB2.out.keep hE id)
    replace HE := hid (HE.out.ext hE)
    clear hE
    have r0 := HB0.out.cell 0
    have r1 := HB0.out.cell 1
    have r2 := HB0.out.cell 2
    have r3 := HB0.out.cell 3
    have r4 := HB0.out.cell 4
    have r5 := HB0.out.cell 5
    have r6 := HB0.out.cell 6
    have r7 := HB0.out.cell 7
    have r8 := HB0.out.cell 8
    have r9 := HB0.out.cell 9
    have r10 := HB0.out.cell 10
    have r11 := HB0.out.cell 11
    simp at r0 r1 r2 r3 r4 r5 r6 r7 r8 r9 r10 r11
    have s0 := HB1.out.cell 0
    have s1 := HB1.out.cell 1
    have s2 := HB1.out.cell 2
    have s3 := HB1.out.cell 3
    have s4 := HB1.out.cell 4
    have s5 := HB1.out.cell 5
    have s6 := HB1.out.cell 6
    have s7 := HB1.out.cell 7
    have s8 := HB1.out.cell 8
    have s9 := HB1.out.cell 9
    have s10 := HB1.out.cell 10
    have s11 := HB1.out.cell 11
    simp at s0 s1 s2 s3 s4 s5 s6 s7 s8 s9 s10 s11
    go_wp2_with fail
    clear r0 r1 r2 r3 r4 r5 r6 r7 r8 r9 r10 r11
    clear s0 s1 s2 s3 s4 s5 s6 s7 s8 s9 s10 s11
    refine (turn_any 5 6 _ _ _ _ _ _ _ _ _ _ _ _ _ _ _ _ _ _ a 0 a 0 false _ SA.out S0.out SA.out S0.out).mono ?_
    rintro e w4 ⟨v4, rfl, hE, h⟩
    rw [t4.out] at h
    obtain ⟨g4, rfl, _, hg⟩ := h
    have A3 := hg.cell 3
    have A4 := hg.cell 4
    simp at A3 A4
    clear hg
    replace HB0 := hid (HB0.out.keep hE id)
    replace HB1 := hid (HB1.out.keep hE id)
    replace HB2 := hid (HB2.out.keep hE id)
    replace HE := hid (HE.out.ext hE)
    clear hE
    have r0 := HB0.out.cell 0
    have r1 := HB0.out.cell 1
    have r2 := HB0.out.cell 2
    have r3 := HB0.out.cell 3
    have r4 := HB0.out.cell 4
    have r5 := HB0.out.cell 5
    have r6 := HB0.out.cell 6
    have r7 := HB0.out.cell 7
    have r8 := HB0.out.cell 8
    have r9 := HB0.out.cell 9
    have r10 := HB0.out.cell 10
    have r11 := HB0.out.cell 11
    simp at r0 r1 r2 r3 r4 r5 r6 r7 r8 r9 r10 r11
    have m0 := HB2.out.cell 0
    have m1 := HB2.out.cell 1
    have m2 := HB2.out.cell 2
    have m3 := HB2.out.cell 3
    have m4 := HB2.out.cell 4
    have m5 := HB2.out.cell 5
    have m6 := HB2.out.cell 6
    have m7 := HB2.out.cell 7
    have m8 := HB2.out.cell 8
    have m9 := HB2.out.cell 9
    have m10 := HB2.out.cell 10
    have m11 := HB2.out.cell 11
    simp at m0 m1 m2 m3 m4 m5 m6 m7 m8 m9 m10 m11
    go_wp2_with fail
    clear r0 r1 r2 r3 r4 r5 r6 r7 r8 r9 r10 r11
    clear m0 m1 m2 m3 m4 m5 m6 m7 m8 m9 m10 m11
    refine (turn_any 5 7 _ _ _ _ _ _ _ _ _ _ _ _ _ _ _ _ _ _ a 0 a b false _ SA.out S0.out SA.out SB.out).mono ?_
    rintro e w5 ⟨v5, rfl, hE, h⟩
    rw [t5.out] at h
    replace A3 := (hE.cell (lt_of_cell A3) id).trans A3
    replace A4 := (hE.cell (lt_of_cell A4) id).trans A4
    obtain ⟨g5, rfl, _, hg⟩ := h
    have B3 := hg.cell 3
    have B4 := hg.cell 4
    simp at B3 B4
    clear hg
    replace HB0 := hid (HB0.out.keep hE id)
    replace HB1 := hid (HB1.out.keep hE id)
    replace HB2 := hid (HB2.out.keep hE id)
    replace HE := hid (HE.out.ext hE)
    clear hE
    have s0 := HB1.out.cell 0
    have s1 := HB1.out.cell 1
    have s2 := HB1.out.cell 2
    have s3 := HB1.out.cell 3
    have s4 := HB1.out.cell 4
    have s5 := HB1.out.cell 5
    have s6 := HB1.out.cell 6
    have s7 := HB1.out.cell 7
    have s8 := HB1.out.cell 8
    have s9 := HB1.out.cell 9
    have s10 := HB1.out.cell 10
    have s11 := HB1.out.cell 11
    simp at s0 s1 s2 s3 s4 s5 s6 s7 s8 s9 s10 s11
    go_wp2_with fail
    clear s0 s1 s2 s3 s4 s5 s6 s7 s8 s9 s10 s11
    refine (turn_any 6 6 _ _ _ _ _ _ _ _ _ _ _ _ _ _ _ _ _ _ a 0 a 0 false _ SA.out S0.out SA.out S0.out).mono ?_
    rintro e w6 ⟨v6, rfl, hE, h⟩
    rw [t6.out] at h
    replace A3 := (hE.cell (lt_of_cell A3) id).trans A3
    replace A4 := (hE.cell (lt_of_cell A4) id).trans A4
    replace B3 := (hE.cell (lt_of_cell B3) id).trans B3
    replace B4 := (hE.cell (lt_of_cell B4) id).trans B4
    simp only [Bool.false_eq_true, if_false] at h
    obtain rfl := h
    replace HB0 := hid (HB0.out.keep hE id)
    replace HB1 := hid (HB1.out.keep hE id)
    replace HB2 := hid (HB2.out.keep hE id)
    replace HE := hid (HE.out.ext hE)
    clear hE
    have m0 := HB2.out.cell 0
    have m1 := HB2.out.cell 1
    have m2 := HB2.out.cell 2
    have m3 := HB2.out.cell 3
    have m4 := HB2.out.cell 4
    have m5 := HB2.out.cell 5
    have m6 := HB2.out.cell 6
    have m7 := HB2.out.cell 7
    have m8 := HB2.out.cell 8
    have m9 := HB2.out.cell 9
    have m10 := HB2.out.cell 10
    have m11 := HB2.out.cell 11
    simp at m0 m1 m2 m3 m4 m5 m6 m7 m8 m9 m10 m11
    go_wp2_with fail
    clear m0 m1 m2 m3 m4 m5 m6 m7 m8 m9 m10 m11
    refine (turn_any 7 7 _ _ _ _ _ _ _ _ _ _ _ _ _ _ _ _ _ _ a b a b false _ SA.out SB.out SA.out SB.out).mono ?_
    rintro e w7 ⟨v7, rfl, hE, h⟩
    rw [t7.out] at h
    replace A3 := (hE.cell (lt_of_cell A3) id).trans A3
    replace A4 := (hE.cell (lt_of_cell A4) id).trans A4
    replace B3 := (hE.cell (lt_of_cell B3) id).trans B3
    replace B4 := (hE.cell (lt_of_cell B4) id).trans B4
    simp only [Bool.false_eq_true, if_false] at h
    obtain rfl := h
    replace HB0 := hid (HB0.out.keep hE id)
    replace HB1 := hid (HB1.out.keep hE id)
    replace HB2 := hid (HB2.out.keep hE id)
    replace HE := hid (HE.out.ext hE)
    clear hE
    go_wp2_with fail
    refine (law_known _).mono ?_
    rintro e w9 ⟨rfl, hE⟩
    replace A3 := (hE.cell (lt_of_cell A3) id).trans A3
    replace A4 := (hE.cell (lt_of_cell A4) id).trans A4
    replace B3 := (hE.cell (lt_of_cell B3) id).trans B3
    replace B4 := (hE.cell (lt_of_cell B4) id).trans B4
    replace HE := hid (HE.out.ext hE)
    clear hE
    go_wp2_with fail
    go_ret
    exact ⟨rfl, HE.out.toBelow⟩
  · refine (turn_any 5 5 _ _ _ _ _ _ _ _ _ _ _ _ _ _ _ _ _ _ a 0 a 0 true _ SA.out S0.out SA.out S0.out).mono ?_
    rintro e w1 ⟨v1, rfl, hE, h⟩
    rw [t1.out] at h
    obtain rfl := h
    replace HB0 := hid (HB0.out.keep hE id)
    replace HB1 := hid (HB1.out.keep hE id)
    replace HB2 := hid (HB2.out.keep hE id)
    replace HE := hid (HE.out.ext hE)
    clear hE
    have r0 := HB0.out.cell 0
    have r1 := HB0.out.cell 1
    have r2 := HB0.out.cell 2
    have r3 := HB0.out.cell 3
    have r4 := HB0.out.cell 4
    have r5 := HB0.out.cell 5
    have r6 := HB0.out.cell 6
    have r7 := HB0.out.cell 7
    have r8 := HB0.out.cell 8
    have r9 := HB0.out.cell 9
    have r10 := HB0.out.cell 10
    have r11 := HB0.out.cell 11
    simp at r0 r1 r2 r3 r4 r5 r6 r7 r8 r9 r10 r11
    have s0 := HB1.out.cell 0
    have s1 := HB1.out.cell 1
    have s2 := HB1.out.cell 2
    have s3 := HB1.out.cell 3
    have s4 := HB1.out.cell 4
    have s5 := HB1.out.cell 5
    have s6 := HB1.out.cell 6
    have s7 := HB1.out.cell 7
    have s8 := HB1.out.cell 8
    have s9 := HB1.out.cell 9
    have s10 := HB1.out.cell 10
    have s11 := HB1.out.cell 11
    simp at s0 s1 s2 s3 s4 s5 s6 s7 s8 s9 s10 s11
    go_wp2_with fail
    clear r0 r1 r2 r3 r4 r5 r6 r7 r8 r9 r10 r11
    clear s0 s1 s2 s3 s4 s5 s6 s7 s8 s9 s10 s11
    refine (turn_any 6 5 _ _ _ _ _ _ _ _ _ _ _ _ _ _ _ _ _ _ a 0 a 0 true _ SA.out S0.out SA.out S0.out).mono ?_
    rintro e w2 ⟨v2, rfl, hE, h⟩
    rw [t2.out] at h
    obtain rfl := h
    replace HB0 := hid (HB0.out.keep hE id)
    replace HB1 := hid (HB1.out.keep hE id)
    replace HB2 := hid (HB2.out.keep hE id)
    replace HE := hid (HE.out.ext hE)
    clear hE
    have m0 := HB2.out.cell 0
    have m1 := HB2.out.cell 1
    have m2 := HB2.out.cell 2
    have m3 := HB2.out.cell 3
    have m4 := HB2.out.cell 4
    have m5 := HB2.out.cell 5
    have m6 := HB2.out.cell 6
    have m7 := HB2.out.cell 7
    have m8 := HB2.out.cell 8
    have m9 := HB2.out.cell 9
    have m10 := HB2.out.cell 10
    have m11 := HB2.out.cell 11
    simp at m0 m1 m2 m3 m4 m5 m6 m7 m8 m9 m10 m11
    have r0 := HB0.out.cell 0
    have r1 := HB0.out.cell 1
    have r2 := HB0.out.cell 2
    have r3 := HB0.out.cell 3
    have r4 := HB0.out.cell 4
    have r5 := HB0.out.cell 5
    have r6 := HB0.out.cell 6
    have r7 := HB0.out.cell 7
    have r8 := HB0.out.cell 8
    have r9 := HB0.out.cell 9
    have r10 := HB0.out.cell 10
    have r11 := HB0.out.cell 11
    simp at r0 r1 r2 r3 r4 r5 r6 r7 r8 r9 r10 r11
    go_wp2_with fail
    clear m0 m1 m2 m3 m4 m5 m6 m7 m8 m9 m10 m11
    clear r0 r1 r2 r3 r4 r5 r6 r7 r8 r9 r10 r11
    refine (turn_any 7 5 _ _ _ _ _ _ _ _ _ _ _ _ _ _ _ _ _ _ a b a 0 true _ SA.out SB.out SA.out S0.out).mono ?_
    rintro e w3 ⟨v3, rfl, hE, h⟩
    rw [t3.out] at h
    obtain rfl := h
    replace HB0 := hid (HB0.out.keep hE id)
    replace HB1 := hid (HB1.out.keep hE id)
    replace HB2 := hid (HB2.out.keep hE id)
    replace HE := hid (HE.out.ext hE)
    clear hE
    have r0 := HB0.out.cell 0
    have r1 := HB0.out.cell 1
    have r2 := HB0.out.cell 2
    have r3 := HB0.out.cell 3
    have r4 := HB0.out.cell 4
    have r5 := HB0.out.cell 5
    have r6 := HB0.out.cell 6
    have r7 := HB0.out.cell 7
    have r8 := HB0.out.cell 8
    have r9 := HB0.out.cell 9
    have r10 := HB0.out.cell 10
    have r11 := HB0.out.cell 11
    simp at r0 r1 r2 r3 r4 r5 r6 r7 r8 r9 r10 r11
    have s0 := HB1.out.cell 0
    have s1 := HB1.out.cell 1
    have s2 := HB1.out.cell 2
    have s3 := HB1.out.cell 3
    have s4 := HB1.out.cell 4
    have s5 := HB1.out.cell 5
    have s6 := HB1.out.cell 6
    have s7 := HB1.out.cell 7
    have s8 := HB1.out.cell 8
    have s9 := HB1.out.cell 9
    have s10 := HB1.out.cell 10
    have s11 := HB1.out.cell 11
    simp at s0 s1 s2 s3 s4 s5 s6 s7 s8 s9 s10 s11
    go_wp2_with fail
    clear r0 r1 r2 r3 r4 r5 r6 r7 r8 r9 r10 r11
    clear s0 s1 s2 s3 s4 s5 s6 s7 s8 s9 s10 s11
    refine (turn_any 5 6 _ _ _ _ _ _ _ _ _ _ _ _ _ _ _ _ _ _ a 0 a 0 true _ SA.out S0.out SA.out S0.out).mono ?_
    rintro e w4 ⟨v4, rfl, hE, h⟩
    rw [t4.out] at h
    obtain ⟨g4, rfl, _, hg⟩ := h
    have A3 := hg.cell 3
    have A4 := hg.cell 4
    simp at A3 A4
    clear hg
    replace HB0 := hid (HB0.out.keep hE id)
    replace HB1 := hid (HB1.out.keep hE id)
    replace HB2 := hid (HB2.out.keep hE id)
    replace HE := hid (HE.out.ext hE)
    clear hE
    have r0 := HB0.out.cell 0
    have r1 := HB0.out.cell 1
    have r2 := HB0.out.cell 2
    have r3 := HB0.out.cell 3
    have r4 := HB0.out.cell 4
    have r5 := HB0.out.cell 5
    have r6 := HB0.out.cell 6
    have r7 := HB0.out.cell 7
    have r8 := HB0.out.cell 8
    have r9 := HB0.out.cell 9
    have r10 := HB0.out.cell 10
    have r11 := HB0.out.cell 11
    simp at r0 r1 r2 r3 r4 r5 r6 r7 r8 r9 r10 r11
    have m0 := HB2.out.cell 0
    have m1 := HB2.out.cell 1
    have m2 := HB2.out.cell 2
    have m3 := HB2.out.cell 3
    have m4 := HB2.out.cell 4
    have m5 := HB2.out.cell 5
    have m6 := HB2.out.cell 6
    have m7 := HB2.out.cell 7
    have m8 := HB2.out.cell 8
    have m9 := HB2.out.cell 9
    have m10 := HB2.out.cell 10
    have m11 := HB2.out.cell 11
    simp at m0 m1 m2 m3 m4 m5 m6 m7 m8 m9 m10 m11
    go_wp2_with fail
    clear r0 r1 r2 r3 r4 r5 r6 r7 r8 r9 r10 r11
    clear m0 m1 m2 m3 m4 m5 m6 m7 m8 m9 m10 m11
    refine (turn_any 5 7 _ _ _ _ _ _ _ _ _ _ _ _ _ _ _ _ _ _ a 0 a b true _ SA.out S0.out SA.out SB.out).mono ?_
    rintro e w5 ⟨v5, rfl, hE, h⟩
    rw [t5.out] at h
    replace A3 := (hE.cell (lt_of_cell A3) id).trans A3
    replace A4 := (hE.cell (lt_of_cell A4) id).trans A4
    obtain ⟨g5, rfl, _, hg⟩ := h
    have B3 := hg.cell 3
    have B4 := hg.cell 4
    simp at B3 B4
    clear hg
    replace HB0 := hid (HB0.out.keep hE id)
    replace HB1 := hid (HB1.out.keep hE id)
    replace HB2 := hid (HB2.out.keep hE id)
    replace HE := hid (HE.out.ext hE)
    clear hE
    have s0 := HB1.out.cell 0
    have s1 := HB1.out.cell 1
    have s2 := HB1.out.cell 2
    have s3 := HB1.out.cell 3
    have s4 := HB1.out.cell 4
    have s5 := HB1.out.cell 5
    have s6 := HB1.out.cell 6
    have s7 := HB1.out.cell 7
    have s8 := HB1.out.cell 8
    have s9 := HB1.out.cell 9
    have s10 := HB1.out.cell 10
    have s11 := HB1.out.cell 11
    simp at s0 s1 s2 s3 s4 s5 s6 s7 s8 s9 s10 s11
    go_wp2_with fail
    clear s0 s1 s2 s3 s4 s5 s6 s7 s8 s9 s10 s11
    refine (turn_any 6 6 _ _ _ _ _ _ _ _ _ _ _ _ _ _ _ _ _ _ a 0 a 0 true _ SA.out S0.out SA.out S0.out).mono ?_
    rintro e w6 ⟨v6, rfl, hE, h⟩
    rw [t6.out] at h
    replace A3 := (hE.cell (lt_of_cell A3) id).trans A3
    replace A4 := (hE.cell (lt_of_cell A4) id).trans A4
    replace B3 := (hE.cell (lt_of_cell B3) id).trans B3
    replace B4 := (hE.cell (lt_of_cell B4) id).trans B4
    simp only [if_true] at h
    obtain ⟨g6, rfl, _, hg⟩ := h
    have C3 := hg.cell 3
    have C4 := hg.cell 4
    simp at C3 C4
    clear hg
    replace HB0 := hid (HB0.out.keep hE id)
    replace HB1 := hid (HB1.out.keep hE id)
    replace HB2 := hid (HB2.out.keep hE id)
    replace HE := hid (HE.out.ext hE)
    clear hE
    have m0 := HB2.out.cell 0
    have m1 := HB2.out.cell 1
    have m2 := HB2.out.cell 2
    have m3 := HB2.out.cell 3
    have m4 := HB2.out.cell 4
    have m5 := HB2.out.cell 5
    have m6 := HB2.out.cell 6
    have m7 := HB2.out.cell 7
    have m8 := HB2.out.cell 8
    have m9 := HB2.out.cell 9
    have m10 := HB2.out.cell 10
    have m11 := HB2.out.cell 11
    simp at m0 m1 m2 m3 m4 m5 m6 m7 m8 m9 m10 m11
    go_wp2_with fail
    clear m0 m1 m2 m3 m4 m5 m6 m7 m8 m9 m10 m11
    refine (turn_any 7 7 _ _ _ _ _ _ _ _ _ _ _ _ _ _ _ _ _ _ a b a b true _ SA.out SB.out SA.out SB.out).mono ?_
    rintro e w7 ⟨v7, rfl, hE, h⟩
    rw [t7.out] at h
    replace A3 := (hE.cell (lt_of_cell A3) id).trans A3
    replace A4 := (hE.cell (lt_of_cell A4) id).trans A4
    replace B3 := (hE.cell (lt_of_cell B3) id).trans B3
    replace B4 := (hE.cell (lt_of_cell B4) id).trans B4
    replace C3 := (hE.cell (lt_of_cell C3) id).trans C3
    replace C4 := (hE.cell (lt_of_cell C4) id).trans C4
    simp only [if_true] at h
    obtain ⟨g7, rfl, _, hg⟩ := h
    have D3 := hg.cell 3
    have D4 := hg.cell 4
    simp at D3 D4
    clear hg
    replace HB0 := hid (HB0.out.keep hE id)
    replace HB1 := hid (HB1.out.keep hE id)
    replace HB2 := hid (HB2.out.keep hE id)
    replace HE := hid (HE.out.ext hE)
    clear hE
    go_wp2_with fail
    refine (law_known _).mono ?_
    rintro e w9 ⟨rfl, hE⟩
    replace A3 := (hE.cell (lt_of_cell A3) id).trans A3
    replace A4 := (hE.cell (lt_of_cell A4) id).trans A4
    replace B3 := (hE.cell (lt_of_cell B3) id).trans B3
    replace B4 := (hE.cell (lt_of_cell B4) id).trans B4
    replace C3 := (hE.cell (lt_of_cell C3) id).trans C3
    replace C4 := (hE.cell (lt_of_cell C4) id).trans C4
    replace D3 := (hE.cell (lt_of_cell D3) id).trans D3
    replace D4 := (hE.cell (lt_of_cell D4) id).trans D4
    replace HE := hid (HE.out.ext hE)
    clear hE
    go_wp2_with fail
    go_ret
    exact ⟨rfl, HE.out.toBelow⟩
end Go.Proofs.Ytimhfkllamimeaa
