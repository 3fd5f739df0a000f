/- The reference's Same of components (chapter 04), at like lists of flat components. -/
import Derived.Test.YtimhfkllamimeaaSeqC3
import Derived.Test.YtimhfkllamimeaaSeqS
set_option linter.unusedSimpArgs false
set_option linter.unusedVariables false
namespace Go.Proofs.Ytimhfkllamimeaa
open Go.RowKit

set_option maxRecDepth 100000 in
set_option maxHeartbeats 6400000 in
theorem rsame_any (cs : List (Cm V)) (u v : Value) (S1 S2 : BS) (w : World) (hu : Sl ECm w S1 u cs) (hv : Sl ECm w S2 v cs) :
    Calls Try.prog 24 #[u, v] w fun e w' => e = .returned (.bool true) ∧ Ext w w' := by
  obtain ⟨A1, c1, rfl, hc1, hm1⟩ := hu.shape
  obtain ⟨A2, c2, rfl, hc2, hm2⟩ := hv.shape
  unfold maxLen at hm1
  have HU := hid hu
  have HV := hid hv
  have enn : ((cs.length : Int) == cs.length) = true := by simp
  clear hu hv
  go_enter Try.func24, Try.ntmps24
  go_wp2_with fail
  go_loopw [5] (fun y wr => ∃ (j : Nat), j ≤ cs.length ∧ y = .int .i64 j ∧ Ext w wr) (fun y _ => cs.length - (intOf y).toNat)
  case atStart => exact ⟨0, by omega, rfl, Keep.refl _ _⟩
  case round =>
    obtain ⟨j, hj, rfl, hr⟩ := hrel
    by_cases hlt : j < cs.length
    · obtain ⟨b1, f1, d1, rfl, _, _, hr1, hc1'⟩ := (HU.out.ext ECm.ok hr).at_ ECm.ok hlt
      obtain ⟨b2, f2, d2, rfl, _, _, hr2, hc2'⟩ := (HV.out.ext ECm.ok hr).at_ ECm.ok hlt
      generalize hcj : cs[j] = c at *
      obtain ⟨ck, ci, cj, cx⟩ := c
      obtain ⟨vk, vn, e1, rfl⟩ := hr1
      obtain ⟨vk', vn', e2, rfl⟩ := hr2
      simp only at e1 e2
      obtain ⟨rfl, rfl⟩ : vk = vk' ∧ vn = vn' := by rw [e1] at e2; simpa [nV] using e2
      have hz : ECm.size = 12 := rfl
      have p0 := hc1' 0 _ rfl
      have p1 := hc1' 1 _ rfl
      have p2 := hc1' 2 _ rfl
      have p3 := hc1' 3 _ rfl
      have p4 := hc1' 4 _ rfl
      have p5 := hc1' 5 _ rfl
      have p6 := hc1' 6 _ rfl
      have p7 := hc1' 7 _ rfl
      have p8 := hc1' 8 _ rfl
      have p9 := hc1' 9 _ rfl
      have p10 := hc1' 10 _ rfl
      have p11 := hc1' 11 _ rfl
      have q0 := hc2' 0 _ rfl
      have q1 := hc2' 1 _ rfl
      have q2 := hc2' 2 _ rfl
      have q3 := hc2' 3 _ rfl
      have q4 := hc2' 4 _ rfl
      have q5 := hc2' 5 _ rfl
      have q6 := hc2' 6 _ rfl
      have q7 := hc2' 7 _ rfl
      have q8 := hc2' 8 _ rfl
      have q9 := hc2' 9 _ rfl
      have q10 := hc2' 10 _ rfl
      have q11 := hc2' 11 _ rfl
      simp only [hz, Nat.add_zero] at p0 p1 p2 p3 p4 p5 p6 p7 p8 p9 p10 p11 q0 q1 q2 q3 q4 q5 q6 q7 q8 q9 q10 q11
      have HR := hid hr
      have hjX : (j : Int) < cs.length := by omega
      clear hc1' hc2' hcj e1 e2 hz hr
      go_wp2_with fail
      change Calls _ _ _ ((wr.alloc (.cells (cmCells ck ci cj vk vn).toArray TCOMP)).alloc (.cells (cmCells ck ci cj vk vn).toArray TCOMP)) _
      obtain ⟨hb0, hb1, hE0⟩ := blk_two wr TCOMP (cmCells ck ci cj vk vn).toArray (cmCells ck ci cj vk vn).toArray
      generalize ((wr.alloc (.cells (cmCells ck ci cj vk vn).toArray TCOMP)).alloc (.cells (cmCells ck ci cj vk vn).toArray TCOMP)) = w0 at *
      refine (same_leaf vk vn _ _ (fun _ => True) (fun _ => True) w0 ⟨_, _, rfl, Sl.nil _ _, Sl.nil _ _⟩ ⟨_, _, rfl, Sl.nil _ _, Sl.nil _ _⟩).mono ?_
      rintro e w5 ⟨rfl, hE5⟩
      have hb0 := hb0.keep hE5 id
      have hb1 := hb1.keep hE5 id
      replace HR := hid ((HR.out.ext hE0).ext hE5)
      have a1 := hb0.cell 1
      simp [cmCells] at a1
      have b1 := hb1.cell 1
      simp [cmCells] at b1
      clear hb0 hb1 hE0 hE5 p0 p1 p2 p3 p4 p5 p6 p7 p8 p9 p10 p11 q0 q1 q2 q3 q4 q5 q6 q7 q8 q9 q10 q11
      go_wp2_with fail
      go_loopw [9] (fun y w' => y = .int .i64 0 ∧ w' = w5) (fun y _ => 0)
      case atStart => exact ⟨rfl, rfl⟩
      case round =>
        obtain ⟨rfl, rfl⟩ := hrel
        go_wp2
        exact ⟨⟨j + 1, by omega, by go_num, HR.out⟩, by simp [intOf]; omega⟩
    · obtain rfl : j = cs.length := by omega
      have HR := hid hr
      clear hr
      go_wp2
      go_ret
      exact ⟨rfl, HR.out⟩
end Go.Proofs.Ytimhfkllamimeaa
