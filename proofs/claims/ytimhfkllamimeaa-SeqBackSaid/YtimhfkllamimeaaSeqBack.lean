/- The law SeqBack: its walk. -/
import Derived.Test.YtimhfkllamimeaaSeqR
import Derived.Test.YtimhfkllamimeaaSeqS
import Derived.Test.YtimhfkllamimeaaLawAid0
set_option linter.unusedSimpArgs false
set_option linter.unusedVariables false
namespace Go.Proofs.Ytimhfkllamimeaa
open Go.RowKit

set_option maxHeartbeats 6400000 in
theorem back_walk (a i j : Int) (w : World) (ha : (Lit.int .u8 a).wf = true) (hi : (Lit.int .i64 i).wf = true) (hj : (Lit.int .i64 j).wf = true) :
    Calls Try.prog 8 #[.int .u8 a, .int .i64 i, .int .i64 j] w fun e w' => e = .returned (.bool true) ∧ Below w.heap.size w w' := by
  obtain ⟨m, hm, em⟩ := rem40 ha
  obtain ⟨i0, hi0, _⟩ := run_max0 i hi
  obtain ⟨j0, hj0, _⟩ := run_max0 j hj
  obtain ⟨p, hp, ep⟩ := tmod_nat i0 (m + 1) (by omega)
  obtain ⟨q, hq, eq⟩ := tmod_nat j0 (m + 1) (by omega)
  have HEN := hid (show 1 + (m : Int) = ((m + 1 : Nat) : Int) from by omega)
  have enz : ((m + 1 : Nat) : Int) ≠ 0 := by omega
  have hlen := numsL_len (m + 1)
  have D1 := hid (back_mv (numsL (m + 1)) p q (nV 0 0) (nV 0 0) (by omega) (by omega))
  have D2 := hid (back_ins (numsL (m + 1)) p 0 0 (nV 0 0) (nV 0 0) (by omega))
  have HF := hid (flat_nums (m + 1))
  have HN := hid (show (m + 1) ≤ 40 from by omega)
  clear ha hi hj
  have hn40 : m + 1 ≤ 40 := hm
  generalize m + 1 = n at *
  have HL := hid hlen
  go_enter Try.func8, Try.ntmps8
  go_wp2_with fail
  refine (law_known _).mono ?_
  rintro e w1 ⟨rfl, hE1⟩
  have HE := hid hE1
  clear hE1
  go_wp2_with fail
  rw [HEN.out]
  refine (numbers_ok n w1 (by have := HN.out; omega)).mono ?_
  rintro e w2 ⟨v, rfl, ho, hE2⟩
  obtain ⟨A, c, rfl, hc1, hc2⟩ := ho.shape
  have HO := hid ((ho.sl EVal.ok).more EVal.ok (S' := fun _ => True) fun _ _ _ => trivial)
  replace HE := hid (HE.out.ext hE2)
  rw [hlen] at hc1 HO
  clear ho hE2 em HEN hm
  go_wp2_with fail
  refine (done_ok (numsL n) (numsL n) [⟨7, p, q, nV 0 0⟩, ⟨7, q, p, nV 0 0⟩] _ _ _ _ _ (HO.out.ext EVal.ok ((Keep.refl _ _).alloc _)) (sl_two_cm w2 7 7 p q q p 0 0 0 0) HF.out (by rw [HL.out]; simp; omega) D1.out).mono ?_
  rintro e w3 ⟨A3, c3, rfl, hl3, hE3⟩
  have hE3 : Ext w2 w3 := Keep.ext ((Keep.refl (fun _ => False) w2).alloc _) hE3
  rw [HL.out] at hl3 ⊢
  have HL3 := hid hl3
  replace HO := hid (HO.out.ext EVal.ok hE3)
  replace HE := hid (HE.out.ext hE3)
  clear hl3 hE3 D1
  go_wp2_with fail
  refine (done_ok (numsL n) (numsL n) [⟨4, p, 0, nV 0 0⟩, ⟨5, p, 0, nV 0 0⟩] _ _ _ _ _ (HO.out.ext EVal.ok ((Keep.refl _ _).alloc _)) (sl_two_cm w3 4 5 p 0 p 0 0 0 0 0) HF.out (by rw [HL.out]; simp; omega) D2.out).mono ?_
  rintro e w4 ⟨A4, c4, rfl, hl4, hE4⟩
  have hE4 : Ext w3 w4 := Keep.ext ((Keep.refl (fun _ => False) w3).alloc _) hE4
  rw [HL.out] at hl4 ⊢
  have HL4 := hid hl4
  replace HO := hid (HO.out.ext EVal.ok hE4)
  replace HL3 := hid (HL3.out.ext EVal.ok hE4)
  replace HE := hid (HE.out.ext hE4)
  clear hl4 hE4 D2
  go_wp2_with fail
  refine (same_list (numsL n) _ _ _ _ w4 HL3.out HO.out (flat_leaf HF.out)).mono ?_
  rintro e w5 ⟨rfl, hE5⟩
  replace HO := hid (HO.out.ext EVal.ok hE5)
  replace HL4 := hid (HL4.out.ext EVal.ok hE5)
  replace HE := hid (HE.out.ext hE5)
  clear hE5
  go_wp2_with fail
  refine (same_list (numsL n) _ _ _ _ w5 HL4.out HO.out (flat_leaf HF.out)).mono ?_
  rintro e w6 ⟨rfl, hE6⟩
  replace HE := hid (HE.out.ext hE6)
  clear hE6
  go_wp2_with fail
  go_ret
  exact ⟨rfl, HE.out.toBelow⟩
end Go.Proofs.Ytimhfkllamimeaa
