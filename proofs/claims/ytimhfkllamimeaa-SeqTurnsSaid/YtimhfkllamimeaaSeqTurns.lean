/- The law SeqTurns: its walk. -/
import Derived.Test.YtimhfkllamimeaaSeqRC
import Derived.Test.YtimhfkllamimeaaSeqRD
import Derived.Test.YtimhfkllamimeaaSeqC3
import Derived.Test.YtimhfkllamimeaaSeqCut
import Derived.Test.YtimhfkllamimeaaGrowTail
import Derived.Test.YtimhfkllamimeaaOpen
set_option linter.unusedSimpArgs false
set_option linter.unusedVariables false
namespace Go.Proofs.Ytimhfkllamimeaa
open Go.RowKit

def FarIs (w : World) (i j : Int) (e : Ending) (w' : World) : Prop := ∃ b, e = .returned (.bool b) ∧ (b = false → -1073741824 ≤ i ∧ i ≤ 1073741824 ∧ -1073741824 ≤ j ∧ j ≤ 1073741824) ∧ Ext w w'
def BelIs (w : World) (e : Ending) (w' : World) : Prop := ∃ b, e = .returned (.bool b) ∧ Ext w w'
set_option maxHeartbeats 1600000 in
theorem far_any (k : UInt8) (i j n : Int) (w : World) :
    Calls Try.prog 13 #[.agg #[U8 k, .int .i64 i, .int .i64 j, .int .i64 n]] w (FarIs w i j) := by
  by_cases h1 : i > 1073741824
  · go_enter Try.func13, Try.ntmps13
    go_wp2
    go_ret
    exact ⟨_, rfl, fun h => (by cases h), (Keep.refl _ _).alloc _⟩
  by_cases h2 : i < -1073741824
  · go_enter Try.func13, Try.ntmps13
    go_wp2
    go_ret
    exact ⟨_, rfl, fun h => (by cases h), (Keep.refl _ _).alloc _⟩
  by_cases h3 : j > 1073741824
  · go_enter Try.func13, Try.ntmps13
    go_wp2
    go_ret
    exact ⟨_, rfl, fun h => (by cases h), (Keep.refl _ _).alloc _⟩
  by_cases h4 : j < -1073741824
  · go_enter Try.func13, Try.ntmps13
    go_wp2
    go_ret
    exact ⟨_, rfl, fun h => (by cases h), (Keep.refl _ _).alloc _⟩
  · have H := hid (show -1073741824 ≤ i ∧ i ≤ 1073741824 ∧ -1073741824 ≤ j ∧ j ≤ 1073741824 from by omega)
    go_enter Try.func13, Try.ntmps13
    go_wp2
    go_ret
    exact ⟨_, rfl, fun _ => H.out, (Keep.refl _ _).alloc _⟩
theorem below_c (k : UInt8) (i j n : Int) (w : World) :
    Calls Try.prog 21 #[.agg #[U8 k, .int .i64 i, .int .i64 j, .int .i64 n]] w (BelIs w) := by
  by_cases h1 : i < 0
  · go_enter Try.func21, Try.ntmps21
    go_wp2
    go_ret
    exact ⟨_, rfl, (Keep.refl _ _).alloc _⟩
  by_cases h2 : j < 0
  all_goals
    go_enter Try.func21, Try.ntmps21
    go_wp2
    go_ret
    exact ⟨_, rfl, (Keep.refl _ _).alloc _⟩

theorem blk_cuts (w : World) (t : TypeId) (a b : Array Value) : Blk ((w.alloc (.cells a t)).alloc (.cells b t)) w.heap.size t a ∧ Blk ((w.alloc (.cells a t)).alloc (.cells b t)) (w.heap.size + 1) t b ∧ Ext w ((w.alloc (.cells a t)).alloc (.cells b t)) := by
  have := Blk.new (w.alloc (.cells a t)) t b
  rw [World.size_alloc] at this
  exact ⟨(Blk.new _ _ _).alloc _, this, ((Keep.refl _ _).alloc _).alloc _⟩
theorem cm_true {w : World} {S : BS} {v : Value} {n : Nat} {cs : List (Cm V)} (h : SlShape ECm w S v n cs) : SlShape ECm w (fun _ => True) v n cs := by
  obtain ⟨A, c, e, h⟩ := h; exact ⟨A, c, e, h.more ECm.ok fun _ _ _ => trivial⟩
theorem SlShape.sl_ {α : Type} {E : El α} {w : World} {S : BS} {v : Value} {n : Nat} {xs : List α} (h : SlShape E w S v n xs) : Sl E w S v xs := by
  obtain ⟨A, c, e, h⟩ := h; exact h
set_option maxHeartbeats 12800000 in
theorem turns_walk (q1 q2 q3 : UInt8) (p1 p2 r1 r2 m1 m2 i : Int) (left : Bool) (w : World) :
    Calls Try.prog 5 #[.agg #[U8 q1, .int .i64 p1, .int .i64 r1, .int .i64 m1], .agg #[U8 q2, .int .i64 p2, .int .i64 r2, .int .i64 m2], .bool left, .int .i64 i, U8 q3] w fun e w' => e = .returned (.bool true) ∧ Below w.heap.size w w' := by
  obtain ⟨hb0, hb1, hE⟩ := blk_cuts w 35 #[U8 q1, .int .i64 p1, .int .i64 r1, .int .i64 m1] #[U8 q2, .int .i64 p2, .int .i64 r2, .int .i64 m2]
  have HB0 := hid hb0
  have HB1 := hid hb1
  have HE := hid hE
  clear hb0 hb1 hE
  go_enter Try.func5, Try.ntmps5
  go_wp2_with fail
  change Calls _ _ _ ((w.alloc (.cells #[U8 q1, .int .i64 p1, .int .i64 r1, .int .i64 m1] 35)).alloc (.cells #[U8 q2, .int .i64 p2, .int .i64 r2, .int .i64 m2] 35)) _
  generalize ((w.alloc (.cells #[U8 q1, .int .i64 p1, .int .i64 r1, .int .i64 m1] 35)).alloc (.cells #[U8 q2, .int .i64 p2, .int .i64 r2, .int .i64 m2] 35)) = w0 at *
  have hb0 := HB0.out
  have hb1 := HB1.out
  have e0 := hb0.cell 0
  have e1 := hb0.cell 1
  have e2 := hb0.cell 2
  have e3 := hb0.cell 3
  simp at e0 e1 e2 e3
  have f0 := hb1.cell 0
  have f1 := hb1.cell 1
  have f2 := hb1.cell 2
  have f3 := hb1.cell 3
  simp at f0 f1 f2 f3
  clear hb0 hb1 HB0 HB1
  refine (far_any q1 p1 r1 m1 _).mono ?_
  rintro e w1 ⟨b, rfl, hbd1, hE⟩
  replace HE := hid (HE.out.ext hE)
  replace e0 := (hE.cell (lt_of_cell e0) id).trans e0
  replace e1 := (hE.cell (lt_of_cell e1) id).trans e1
  replace e2 := (hE.cell (lt_of_cell e2) id).trans e2
  replace e3 := (hE.cell (lt_of_cell e3) id).trans e3
  replace f0 := (hE.cell (lt_of_cell f0) id).trans f0
  replace f1 := (hE.cell (lt_of_cell f1) id).trans f1
  replace f2 := (hE.cell (lt_of_cell f2) id).trans f2
  replace f3 := (hE.cell (lt_of_cell f3) id).trans f3
  clear hE
  have HF1 := hid hbd1
  clear hbd1
  cases b
  case true =>
    go_wp2_with fail
    refine (law_known _).mono ?_
    rintro e w9 ⟨rfl, hE⟩
    replace HE := hid (HE.out.ext hE)
    clear hE
    go_wp2_with fail
    go_ret
    exact ⟨rfl, HE.out.toBelow⟩
  go_wp2_with fail
  refine (far_any q2 p2 r2 m2 _).mono ?_
  rintro e w2 ⟨b, rfl, hbd1, hE⟩
  replace HE := hid (HE.out.ext hE)
  replace e0 := (hE.cell (lt_of_cell e0) id).trans e0
  replace e1 := (hE.cell (lt_of_cell e1) id).trans e1
  replace e2 := (hE.cell (lt_of_cell e2) id).trans e2
  replace e3 := (hE.cell (lt_of_cell e3) id).trans e3
  replace f0 := (hE.cell (lt_of_cell f0) id).trans f0
  replace f1 := (hE.cell (lt_of_cell f1) id).trans f1
  replace f2 := (hE.cell (lt_of_cell f2) id).trans f2
  replace f3 := (hE.cell (lt_of_cell f3) id).trans f3
  clear hE
  have HF2 := hid hbd1
  clear hbd1
  cases b
  case true =>
    go_wp2_with fail
    refine (law_known _).mono ?_
    rintro e w9 ⟨rfl, hE⟩
    replace HE := hid (HE.out.ext hE)
    clear hE
    go_wp2_with fail
    go_ret
    exact ⟨rfl, HE.out.toBelow⟩
  go_wp2_with fail
  refine (below_c q1 p1 r1 m1 _).mono ?_
  rintro e w3 ⟨b, rfl, hE⟩
  replace HE := hid (HE.out.ext hE)
  replace e0 := (hE.cell (lt_of_cell e0) id).trans e0
  replace e1 := (hE.cell (lt_of_cell e1) id).trans e1
  replace e2 := (hE.cell (lt_of_cell e2) id).trans e2
  replace e3 := (hE.cell (lt_of_cell e3) id).trans e3
  replace f0 := (hE.cell (lt_of_cell f0) id).trans f0
  replace f1 := (hE.cell (lt_of_cell f1) id).trans f1
  replace f2 := (hE.cell (lt_of_cell f2) id).trans f2
  replace f3 := (hE.cell (lt_of_cell f3) id).trans f3
  clear hE
  cases b
  case true =>
    go_wp2_with fail
    refine (law_known _).mono ?_
    rintro e w9 ⟨rfl, hE⟩
    replace HE := hid (HE.out.ext hE)
    clear hE
    go_wp2_with fail
    go_ret
    exact ⟨rfl, HE.out.toBelow⟩
  go_wp2_with fail
  refine (below_c q2 p2 r2 m2 _).mono ?_
  rintro e w4 ⟨b, rfl, hE⟩
  replace HE := hid (HE.out.ext hE)
  replace e0 := (hE.cell (lt_of_cell e0) id).trans e0
  replace e1 := (hE.cell (lt_of_cell e1) id).trans e1
  replace e2 := (hE.cell (lt_of_cell e2) id).trans e2
  replace e3 := (hE.cell (lt_of_cell e3) id).trans e3
  replace f0 := (hE.cell (lt_of_cell f0) id).trans f0
  replace f1 := (hE.cell (lt_of_cell f1) id).trans f1
  replace f2 := (hE.cell (lt_of_cell f2) id).trans f2
  replace f3 := (hE.cell (lt_of_cell f3) id).trans f3
  clear hE
  cases b
  case true =>
    go_wp2_with fail
    refine (law_known _).mono ?_
    rintro e w9 ⟨rfl, hE⟩
    replace HE := hid (HE.out.ext hE)
    clear hE
    go_wp2_with fail
    go_ret
    exact ⟨rfl, HE.out.toBelow⟩
  by_cases hi1 : i > 1073741824
  · skip
    go_wp2_with fail
    refine (law_known _).mono ?_
    rintro e w9 ⟨rfl, hE⟩
    replace HE := hid (HE.out.ext hE)
    clear hE
    go_wp2_with fail
    go_ret
    exact ⟨rfl, HE.out.toBelow⟩
  by_cases hi2 : i < 0
  · skip
    go_wp2_with fail
    refine (law_known _).mono ?_
    rintro e w9 ⟨rfl, hE⟩
    replace HE := hid (HE.out.ext hE)
    clear hE
    go_wp2_with fail
    go_ret
    exact ⟨rfl, HE.out.toBelow⟩
  have hi3 : i ≤ 1073741824 := by omega
  have hi4 : 0 ≤ i := by omega
  clear hi1 hi2
  go_wp2_with fail
  refine (law_known _).mono ?_
  rintro e w5 ⟨rfl, hE⟩
  replace HE := hid (HE.out.ext hE)
  replace e0 := (hE.cell (lt_of_cell e0) id).trans e0
  replace e1 := (hE.cell (lt_of_cell e1) id).trans e1
  replace e2 := (hE.cell (lt_of_cell e2) id).trans e2
  replace e3 := (hE.cell (lt_of_cell e3) id).trans e3
  replace f0 := (hE.cell (lt_of_cell f0) id).trans f0
  replace f1 := (hE.cell (lt_of_cell f1) id).trans f1
  replace f2 := (hE.cell (lt_of_cell f2) id).trans f2
  replace f3 := (hE.cell (lt_of_cell f3) id).trans f3
  clear hE
  go_wp2_with fail
  refine (comp_ok q1 p1 r1 m1 _).mono ?_
  rintro e w6 ⟨rfl, hE⟩
  replace HE := hid (HE.out.ext hE)
  replace e0 := (hE.cell (lt_of_cell e0) id).trans e0
  replace e1 := (hE.cell (lt_of_cell e1) id).trans e1
  replace e2 := (hE.cell (lt_of_cell e2) id).trans e2
  replace e3 := (hE.cell (lt_of_cell e3) id).trans e3
  replace f0 := (hE.cell (lt_of_cell f0) id).trans f0
  replace f1 := (hE.cell (lt_of_cell f1) id).trans f1
  replace f2 := (hE.cell (lt_of_cell f2) id).trans f2
  replace f3 := (hE.cell (lt_of_cell f3) id).trans f3
  clear hE
  clear e0 e1 e2 e3
  obtain ⟨k1, hk1⟩ : ∃ k1, k1 = kL q1 := ⟨_, rfl⟩
  obtain ⟨j1, hj1⟩ : ∃ j1, j1 = jL k1 r1 := ⟨_, rfl⟩
  obtain ⟨vk1, hvk1⟩ : ∃ vk1, vk1 = vkL k1 := ⟨_, rfl⟩
  obtain ⟨vn1, hvn1⟩ : ∃ vn1, vn1 = vnL k1 m1 := ⟨_, rfl⟩
  rw [← hk1, ← hj1, ← hvk1, ← hvn1]
  have S1 := hid (show Sm p1 from ⟨by have := (HF1.out trivial); omega, by have := (HF1.out trivial); omega⟩)
  have S2 := hid (show Sm j1 from by have := (HF1.out trivial); rw [hj1, jL]; split <;> exact ⟨by omega, by omega⟩)
  clear hk1 hj1 hvk1 hvn1 HF1
  have hlf := lt_of_cell f0
  simp only [cmCells]
  go_wp2_with fail
  change Calls _ _ _ (w6.alloc (.cells (cmCells k1 p1 j1 vk1 vn1).toArray TCOMP)) _
  have hb0 := Blk.new w6 TCOMP (cmCells k1 p1 j1 vk1 vn1).toArray
  have hE : Ext w6 (w6.alloc (.cells (cmCells k1 p1 j1 vk1 vn1).toArray TCOMP)) := (Keep.refl _ _).alloc _
  generalize (w6.alloc (.cells (cmCells k1 p1 j1 vk1 vn1).toArray TCOMP)) = w6' at *
  replace HE := hid (HE.out.ext hE)
  clear hE
  refine (comp_ok q2 p2 r2 m2 _).mono ?_
  rintro e w7 ⟨rfl, hE⟩
  replace HE := hid (HE.out.ext hE)
  have hb0 := hb0.keep hE id
  clear hE f0 f1 f2 f3 hlf
  obtain ⟨k2, hk2⟩ : ∃ k2, k2 = kL q2 := ⟨_, rfl⟩
  obtain ⟨j2, hj2⟩ : ∃ j2, j2 = jL k2 r2 := ⟨_, rfl⟩
  obtain ⟨vk2, hvk2⟩ : ∃ vk2, vk2 = vkL k2 := ⟨_, rfl⟩
  obtain ⟨vn2, hvn2⟩ : ∃ vn2, vn2 = vnL k2 m2 := ⟨_, rfl⟩
  rw [← hk2, ← hj2, ← hvk2, ← hvn2]
  have S3 := hid (show Sm p2 from ⟨by have := (HF2.out trivial); omega, by have := (HF2.out trivial); omega⟩)
  have S4 := hid (show Sm j2 from by have := (HF2.out trivial); rw [hj2, jL]; split <;> exact ⟨by omega, by omega⟩)
  have S5 := hid (show Sm i from ⟨by omega, by omega⟩)
  clear hk2 hj2 hvk2 hvn2 HF2
  simp only [cmCells]
  go_wp2_with fail
  change Calls _ _ _ ((w7.alloc (.cells (cmCells k2 p2 j2 vk2 vn2).toArray TCOMP)).alloc (.cells (cmCells q3 p2 j2 vk2 vn2).toArray TCOMP)) _
  obtain ⟨hb1, hb2, hE⟩ := blk_cuts w7 TCOMP (cmCells k2 p2 j2 vk2 vn2).toArray (cmCells q3 p2 j2 vk2 vn2).toArray
  have hb0 := hb0.keep hE id
  generalize ((w7.alloc (.cells (cmCells k2 p2 j2 vk2 vn2).toArray TCOMP)).alloc (.cells (cmCells q3 p2 j2 vk2 vn2).toArray TCOMP)) = w8 at *
  refine (at_any k2 _ _ _ _ _ _ _ _ _ p2 j2 i w8 S5.out S3.out S4.out).mono ?_
  rintro e w9 ⟨rfl, hE9⟩
  have hb0 := hb0.keep hE9 id
  have hb1 := hb1.keep hE9 id
  have hb2 := hb2.keep hE9 id
  replace HE := hid ((HE.out.ext hE).ext hE9)
  clear hE hE9
  have HB0 := hid hb0
  have HB1 := hid hb1
  have HB2 := hid hb2
  have b0 := hb1.cell 0
  have b1 := hb1.cell 1
  have b2 := hb1.cell 2
  have b3 := hb1.cell 3
  have b4 := hb1.cell 4
  have b5 := hb1.cell 5
  have b6 := hb1.cell 6
  have b7 := hb1.cell 7
  have b8 := hb1.cell 8
  have b9 := hb1.cell 9
  have b10 := hb1.cell 10
  have b11 := hb1.cell 11
  simp [cmCells] at b0 b1 b2 b3 b4 b5 b6 b7 b8 b9 b10 b11
  clear hb0 hb1 hb2
  go_wp2_with fail
  refine (rat_any k2 _ _ _ _ _ _ _ _ _ p2 j2 i w9 S5.out S3.out S4.out).mono ?_
  rintro e w10 ⟨rfl, hE⟩
  have hb0 := HB0.out.keep hE id
  have hb1 := HB1.out.keep hE id
  have hb2 := HB2.out.keep hE id
  replace HE := hid (HE.out.ext hE)
  clear b0 b1 b2 b3 b4 b5 b6 b7 b8 b9 b10 b11 hE HB0 HB1 HB2
  have a0 := hb0.cell 0
  have a1 := hb0.cell 1
  have a2 := hb0.cell 2
  have a3 := hb0.cell 3
  have a4 := hb0.cell 4
  have a5 := hb0.cell 5
  have a6 := hb0.cell 6
  have a7 := hb0.cell 7
  have a8 := hb0.cell 8
  have a9 := hb0.cell 9
  have a10 := hb0.cell 10
  have a11 := hb0.cell 11
  simp [cmCells] at a0 a1 a2 a3 a4 a5 a6 a7 a8 a9 a10 a11
  have b0 := hb1.cell 0
  have b1 := hb1.cell 1
  have b2 := hb1.cell 2
  have b3 := hb1.cell 3
  have b4 := hb1.cell 4
  have b5 := hb1.cell 5
  have b6 := hb1.cell 6
  have b7 := hb1.cell 7
  have b8 := hb1.cell 8
  have b9 := hb1.cell 9
  have b10 := hb1.cell 10
  have b11 := hb1.cell 11
  simp [cmCells] at b0 b1 b2 b3 b4 b5 b6 b7 b8 b9 b10 b11
  have c0 := hb2.cell 0
  have c1 := hb2.cell 1
  have c2 := hb2.cell 2
  have c3 := hb2.cell 3
  have c4 := hb2.cell 4
  have c5 := hb2.cell 5
  have c6 := hb2.cell 6
  have c7 := hb2.cell 7
  have c8 := hb2.cell 8
  have c9 := hb2.cell 9
  have c10 := hb2.cell 10
  have c11 := hb2.cell 11
  simp [cmCells] at c0 c1 c2 c3 c4 c5 c6 c7 c8 c9 c10 c11
  clear hb0 hb1 hb2
  generalize (atL k2 p2 j2 i).1 = av at *
  generalize (atL k2 p2 j2 i).2 = ab at *
  have eav : (av == av) = true := by simp
  have eab : (ab == ab) = true := by simp
  go_wp2_with fail
  obtain ⟨cs, hcs⟩ : ∃ cs : List (Cm V), cs = turnC ⟨k1, p1, j1, nV vk1 vn1⟩ ⟨k2, p2, j2, nV vk2 vn2⟩ left := ⟨_, rfl⟩
  obtain ⟨ct, hct⟩ : ∃ ct : List (Cm V), ct = turnC ⟨k1, p1, j1, nV vk1 vn1⟩ ⟨q3, p2, j2, nV vk2 vn2⟩ left := ⟨_, rfl⟩
  have Hcs := hid hcs
  have Hct := hid hct
  clear hcs hct
  refine wp_region_grow (specOf [(3, fun v w' => SlShape ECm w' (fun _ => True) v cs.length cs), (7, fun v w' => SlShape ECm w' (fun _ => True) v cs.length cs), (8, fun v _ => v = .bool true),
      (13, fun v w' => SlShape ECm w' (fun _ => True) v ct.length ct), (17, fun v w' => SlShape ECm w' (fun _ => True) v ct.length ct), (18, fun v _ => v = .bool true)])
    (fun w' => Ext w10 w') ?_ (stableC_ext _) (by kernel_rfl) (by kernel_rfl) (Keep.drew (Keep.refl _ _)) ?_
  · exact stable_cons (fun v w w' h he => h.ext ECm.ok he) (stable_cons (fun v w w' h he => h.ext ECm.ok he) (stable_cons (fun v w w' h he => h) (stable_cons (fun v w w' h he => h.ext ECm.ok he) (stable_cons (fun v w w' h he => h.ext ECm.ok he) (stable_cons (fun v w w' h he => h) stable_nil)))))
  iterate 3
    (try simp only [Act.put, List.setIfInBounds_toArray, List.set_cons_zero, List.set_cons_succ])
    refine grow_run rfl rfl rfl ?_
    apply Exists.intro
    refine ⟨fun w' hC hK => ?_, ?_⟩
    · have a0 := (hC.cell (lt_of_cell a0) id).trans a0
      have a1 := (hC.cell (lt_of_cell a1) id).trans a1
      have a2 := (hC.cell (lt_of_cell a2) id).trans a2
      have a3 := (hC.cell (lt_of_cell a3) id).trans a3
      have a4 := (hC.cell (lt_of_cell a4) id).trans a4
      have a5 := (hC.cell (lt_of_cell a5) id).trans a5
      have a6 := (hC.cell (lt_of_cell a6) id).trans a6
      have a7 := (hC.cell (lt_of_cell a7) id).trans a7
      have a8 := (hC.cell (lt_of_cell a8) id).trans a8
      have a9 := (hC.cell (lt_of_cell a9) id).trans a9
      have a10 := (hC.cell (lt_of_cell a10) id).trans a10
      have a11 := (hC.cell (lt_of_cell a11) id).trans a11
      have b0 := (hC.cell (lt_of_cell b0) id).trans b0
      have b1 := (hC.cell (lt_of_cell b1) id).trans b1
      have b2 := (hC.cell (lt_of_cell b2) id).trans b2
      have b3 := (hC.cell (lt_of_cell b3) id).trans b3
      have b4 := (hC.cell (lt_of_cell b4) id).trans b4
      have b5 := (hC.cell (lt_of_cell b5) id).trans b5
      have b6 := (hC.cell (lt_of_cell b6) id).trans b6
      have b7 := (hC.cell (lt_of_cell b7) id).trans b7
      have b8 := (hC.cell (lt_of_cell b8) id).trans b8
      have b9 := (hC.cell (lt_of_cell b9) id).trans b9
      have b10 := (hC.cell (lt_of_cell b10) id).trans b10
      have b11 := (hC.cell (lt_of_cell b11) id).trans b11
      go_simp
      rfl
  (try simp only [Act.put, List.setIfInBounds_toArray, List.set_cons_zero, List.set_cons_succ])
  refine grow_eff rfl rfl rfl (fun w' hC hK => ?_) (fun v3 hv3 => ?_)
  · unfold growAt
    go_simp
    refine grow_call ((turn_any k1 k2 _ _ _ _ _ _ _ _ _ _ _ _ _ _ _ _ _ _ p1 j1 p2 j2 left w' S1.out S2.out S3.out S4.out).mono ?_)
    intro e w'' h
    obtain ⟨u, rfl, h1, h2⟩ := comp_sl (w0 := w10) hC.size h
    exact ⟨_, rfl, h1, cm_true (by rw [Hcs.out]; exact h2)⟩
  obtain ⟨_, _, A3, d3, rfl, _⟩ := hv3.head
  iterate 3
    (try simp only [Act.put, List.setIfInBounds_toArray, List.set_cons_zero, List.set_cons_succ])
    refine grow_run rfl rfl rfl ?_
    apply Exists.intro
    refine ⟨fun w' hC hK => ?_, ?_⟩
    · have a0 := (hC.cell (lt_of_cell a0) id).trans a0
      have a1 := (hC.cell (lt_of_cell a1) id).trans a1
      have a2 := (hC.cell (lt_of_cell a2) id).trans a2
      have a3 := (hC.cell (lt_of_cell a3) id).trans a3
      have a4 := (hC.cell (lt_of_cell a4) id).trans a4
      have a5 := (hC.cell (lt_of_cell a5) id).trans a5
      have a6 := (hC.cell (lt_of_cell a6) id).trans a6
      have a7 := (hC.cell (lt_of_cell a7) id).trans a7
      have a8 := (hC.cell (lt_of_cell a8) id).trans a8
      have a9 := (hC.cell (lt_of_cell a9) id).trans a9
      have a10 := (hC.cell (lt_of_cell a10) id).trans a10
      have a11 := (hC.cell (lt_of_cell a11) id).trans a11
      have b0 := (hC.cell (lt_of_cell b0) id).trans b0
      have b1 := (hC.cell (lt_of_cell b1) id).trans b1
      have b2 := (hC.cell (lt_of_cell b2) id).trans b2
      have b3 := (hC.cell (lt_of_cell b3) id).trans b3
      have b4 := (hC.cell (lt_of_cell b4) id).trans b4
      have b5 := (hC.cell (lt_of_cell b5) id).trans b5
      have b6 := (hC.cell (lt_of_cell b6) id).trans b6
      have b7 := (hC.cell (lt_of_cell b7) id).trans b7
      have b8 := (hC.cell (lt_of_cell b8) id).trans b8
      have b9 := (hC.cell (lt_of_cell b9) id).trans b9
      have b10 := (hC.cell (lt_of_cell b10) id).trans b10
      have b11 := (hC.cell (lt_of_cell b11) id).trans b11
      go_simp
      rfl
  (try simp only [Act.put, List.setIfInBounds_toArray, List.set_cons_zero, List.set_cons_succ])
  refine grow_eff rfl rfl rfl (fun w' hC hK => ?_) (fun v7 hv7 => ?_)
  · unfold growAt
    go_simp
    refine grow_call ((rturn_any k1 k2 _ _ _ _ _ _ _ _ _ _ _ _ _ _ _ _ _ _ p1 j1 p2 j2 left w' S1.out S2.out S3.out S4.out).mono ?_)
    intro e w'' h
    obtain ⟨u, rfl, h1, h2⟩ := comp_sl (w0 := w10) hC.size h
    exact ⟨_, rfl, h1, cm_true (by rw [Hcs.out]; exact h2)⟩
  obtain ⟨_, _, A7, d7, rfl, _⟩ := hv7.head
  (try simp only [Act.put, List.setIfInBounds_toArray, List.set_cons_zero, List.set_cons_succ])
  refine grow_eff rfl rfl rfl (fun w' hC hK => ?_) (fun v8 hv8 => ?_)
  · have g1 : SlShape ECm w' (fun _ => True) (.slice A3 cs.length d3) cs.length cs := hK.get (i := 3) (List.mem_cons_of_mem _ List.mem_cons_self) (by kernel_rfl)
    have g2 : SlShape ECm w' (fun _ => True) (.slice A7 cs.length d7) cs.length cs := hK.get (i := 7) (List.mem_cons_self) (by kernel_rfl)
    have g1 := g1.sl_
    have g2 := g2.sl_
    unfold growAt
    go_simp
    refine grow_call ((rsame_any cs _ _ _ _ w' g1 g2).mono ?_)
    rintro e w'' ⟨rfl, h⟩
    exact ⟨_, rfl, h, rfl⟩
  obtain ⟨_, _, rfl⟩ := hv8.head
  iterate 1
    (try simp only [Act.put, List.setIfInBounds_toArray, List.set_cons_zero, List.set_cons_succ])
    refine grow_run rfl rfl rfl ?_
    apply Exists.intro
    refine ⟨fun w' hC hK => ?_, ?_⟩
    · go_simp
      rfl
  iterate 3
    (try simp only [Act.put, List.setIfInBounds_toArray, List.set_cons_zero, List.set_cons_succ])
    refine grow_run rfl rfl rfl ?_
    apply Exists.intro
    refine ⟨fun w' hC hK => ?_, ?_⟩
    · have a0 := (hC.cell (lt_of_cell a0) id).trans a0
      have a1 := (hC.cell (lt_of_cell a1) id).trans a1
      have a2 := (hC.cell (lt_of_cell a2) id).trans a2
      have a3 := (hC.cell (lt_of_cell a3) id).trans a3
      have a4 := (hC.cell (lt_of_cell a4) id).trans a4
      have a5 := (hC.cell (lt_of_cell a5) id).trans a5
      have a6 := (hC.cell (lt_of_cell a6) id).trans a6
      have a7 := (hC.cell (lt_of_cell a7) id).trans a7
      have a8 := (hC.cell (lt_of_cell a8) id).trans a8
      have a9 := (hC.cell (lt_of_cell a9) id).trans a9
      have a10 := (hC.cell (lt_of_cell a10) id).trans a10
      have a11 := (hC.cell (lt_of_cell a11) id).trans a11
      have c0 := (hC.cell (lt_of_cell c0) id).trans c0
      have c1 := (hC.cell (lt_of_cell c1) id).trans c1
      have c2 := (hC.cell (lt_of_cell c2) id).trans c2
      have c3 := (hC.cell (lt_of_cell c3) id).trans c3
      have c4 := (hC.cell (lt_of_cell c4) id).trans c4
      have c5 := (hC.cell (lt_of_cell c5) id).trans c5
      have c6 := (hC.cell (lt_of_cell c6) id).trans c6
      have c7 := (hC.cell (lt_of_cell c7) id).trans c7
      have c8 := (hC.cell (lt_of_cell c8) id).trans c8
      have c9 := (hC.cell (lt_of_cell c9) id).trans c9
      have c10 := (hC.cell (lt_of_cell c10) id).trans c10
      have c11 := (hC.cell (lt_of_cell c11) id).trans c11
      go_simp
      rfl
  (try simp only [Act.put, List.setIfInBounds_toArray, List.set_cons_zero, List.set_cons_succ])
  refine grow_eff rfl rfl rfl (fun w' hC hK => ?_) (fun v13 hv13 => ?_)
  · unfold growAt
    go_simp
    refine grow_call ((turn_any k1 q3 _ _ _ _ _ _ _ _ _ _ _ _ _ _ _ _ _ _ p1 j1 p2 j2 left w' S1.out S2.out S3.out S4.out).mono ?_)
    intro e w'' h
    obtain ⟨u, rfl, h1, h2⟩ := comp_sl (w0 := w10) hC.size h
    exact ⟨_, rfl, h1, cm_true (by rw [Hct.out]; exact h2)⟩
  obtain ⟨_, _, A13, d13, rfl, _⟩ := hv13.head
  iterate 3
    (try simp only [Act.put, List.setIfInBounds_toArray, List.set_cons_zero, List.set_cons_succ])
    refine grow_run rfl rfl rfl ?_
    apply Exists.intro
    refine ⟨fun w' hC hK => ?_, ?_⟩
    · have a0 := (hC.cell (lt_of_cell a0) id).trans a0
      have a1 := (hC.cell (lt_of_cell a1) id).trans a1
      have a2 := (hC.cell (lt_of_cell a2) id).trans a2
      have a3 := (hC.cell (lt_of_cell a3) id).trans a3
      have a4 := (hC.cell (lt_of_cell a4) id).trans a4
      have a5 := (hC.cell (lt_of_cell a5) id).trans a5
      have a6 := (hC.cell (lt_of_cell a6) id).trans a6
      have a7 := (hC.cell (lt_of_cell a7) id).trans a7
      have a8 := (hC.cell (lt_of_cell a8) id).trans a8
      have a9 := (hC.cell (lt_of_cell a9) id).trans a9
      have a10 := (hC.cell (lt_of_cell a10) id).trans a10
      have a11 := (hC.cell (lt_of_cell a11) id).trans a11
      have c0 := (hC.cell (lt_of_cell c0) id).trans c0
      have c1 := (hC.cell (lt_of_cell c1) id).trans c1
      have c2 := (hC.cell (lt_of_cell c2) id).trans c2
      have c3 := (hC.cell (lt_of_cell c3) id).trans c3
      have c4 := (hC.cell (lt_of_cell c4) id).trans c4
      have c5 := (hC.cell (lt_of_cell c5) id).trans c5
      have c6 := (hC.cell (lt_of_cell c6) id).trans c6
      have c7 := (hC.cell (lt_of_cell c7) id).trans c7
      have c8 := (hC.cell (lt_of_cell c8) id).trans c8
      have c9 := (hC.cell (lt_of_cell c9) id).trans c9
      have c10 := (hC.cell (lt_of_cell c10) id).trans c10
      have c11 := (hC.cell (lt_of_cell c11) id).trans c11
      go_simp
      rfl
  (try simp only [Act.put, List.setIfInBounds_toArray, List.set_cons_zero, List.set_cons_succ])
  refine grow_eff rfl rfl rfl (fun w' hC hK => ?_) (fun v17 hv17 => ?_)
  · unfold growAt
    go_simp
    refine grow_call ((rturn_any k1 q3 _ _ _ _ _ _ _ _ _ _ _ _ _ _ _ _ _ _ p1 j1 p2 j2 left w' S1.out S2.out S3.out S4.out).mono ?_)
    intro e w'' h
    obtain ⟨u, rfl, h1, h2⟩ := comp_sl (w0 := w10) hC.size h
    exact ⟨_, rfl, h1, cm_true (by rw [Hct.out]; exact h2)⟩
  obtain ⟨_, _, A17, d17, rfl, _⟩ := hv17.head
  (try simp only [Act.put, List.setIfInBounds_toArray, List.set_cons_zero, List.set_cons_succ])
  refine grow_eff rfl rfl rfl (fun w' hC hK => ?_) (fun v18 hv18 => ?_)
  · have g1 : SlShape ECm w' (fun _ => True) (.slice A13 ct.length d13) ct.length ct := hK.get (i := 13) (List.mem_cons_of_mem _ List.mem_cons_self) (by kernel_rfl)
    have g2 : SlShape ECm w' (fun _ => True) (.slice A17 ct.length d17) ct.length ct := hK.get (i := 17) (List.mem_cons_self) (by kernel_rfl)
    have g1 := g1.sl_
    have g2 := g2.sl_
    unfold growAt
    go_simp
    refine grow_call ((rsame_any ct _ _ _ _ w' g1 g2).mono ?_)
    rintro e w'' ⟨rfl, h⟩
    exact ⟨_, rfl, h, rfl⟩
  obtain ⟨_, _, rfl⟩ := hv18.head
  iterate 12
    (try simp only [Act.put, List.setIfInBounds_toArray, List.set_cons_zero, List.set_cons_succ])
    refine grow_run rfl rfl rfl ?_
    apply Exists.intro
    refine ⟨fun w' hC hK => ?_, ?_⟩
    · go_simp
      rfl
  refine grow_nil fun w11 hC _ => ?_
  replace HE := hid (HE.out.ext hC)
  (try simp only [Act.put, List.setIfInBounds_toArray, List.set_cons_zero, List.set_cons_succ])
  go_wp2
  go_ret
  exact ⟨rfl, HE.out.toBelow⟩
theorem turns_cuts (x1 : Array Value) (c1 : LCut) (x2 : Array Value) (c2 : LCut) (left : Bool) (i a : Int) (w : World) (h1 : ECut.rd w (fun k => k < w.heap.size) x1.toList c1) (o1 : CutOk c1) (h2 : ECut.rd w (fun k => k < w.heap.size) x2.toList c2) (o2 : CutOk c2)
    (hi : (Lit.int .i64 i).wf = true) (ha : (Lit.int .u8 a).wf = true) :
    Calls Try.prog 5 #[.agg x1, .agg x2, .bool left, .int .i64 i, .int .u8 a] w fun e w' => e = .returned (.bool true) ∧ Below w.heap.size w w' := by
  rw [cut_cells h1, cut_cells h2]
  obtain ⟨q, rfl⟩ := u8_of_wf ha
  exact turns_walk _ _ q _ _ _ _ _ _ i left w
end Go.Proofs.Ytimhfkllamimeaa
