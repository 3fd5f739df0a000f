/- The law SeqMoves: its walk. -/
import Derived.Test.YtimhfkllamimeaaSeqR
import Derived.Test.YtimhfkllamimeaaLawAid0
import Derived.Test.YtimhfkllamimeaaGrowTail
set_option linter.unusedSimpArgs false
set_option linter.unusedVariables false
namespace Go.Proofs.Ytimhfkllamimeaa
open Go.RowKit

/-- What stands where, of numbers of which one was moved. -/
theorem mv_nums (n p q : Nat) (hp : p < n) (hq : q < n) : ∃ ys : List V, doL (numsL n) ⟨7, p, q, nV 0 0⟩ = some ys ∧ ys.length = n ∧ ∀ k : Nat, k < n → ys[k]? = some (nV 2 (1000 + src 7 p q k)) := by
  have hlen := numsL_len n
  obtain ⟨ys, h1, h2, h3⟩ := do_F (numsL n) ⟨7, p, q, nV 0 0⟩ (check_of (by refine .inr (.inr (.inr ⟨rfl, ?_⟩)); simp only [hlen]; omega))
  refine ⟨ys, h1, by simp [dlen] at h3; omega, fun k hk => ?_⟩
  have h := h2 k
  have h7 : ∀ a b, ¬ isNew 7 a b := fun a b h => by have := h.1; revert this; decide
  simp only [doF, h7, if_false] at h
  have hs : 0 ≤ src 7 p q k ∧ src 7 p q k < n := by
    simp only [src, show (7 : UInt8) ≠ 4 from by decide, show (7 : UInt8) ≠ 5 from by decide, show (7 : UInt8) ≠ 6 from by decide, if_false]
    omega
  obtain ⟨m, hm⟩ : ∃ m : Nat, src 7 p q k = m := ⟨(src 7 p q k).toNat, by omega⟩
  rw [hm] at h hs ⊢
  have hmn : m < n := by omega
  simp only [Fn, Int.toNat_natCast] at h
  rw [if_pos (by omega), if_pos (by omega)] at h
  rw [h]
  simp [numsL, hmn]
theorem mv_order (p q k k' : Nat) (h : k < k') (h1 : k ≠ q) (h2 : k' ≠ q) : src 7 p q k < src 7 p q k' := by
  simp only [src, show (7 : UInt8) ≠ 4 from by decide, show (7 : UInt8) ≠ 5 from by decide, show (7 : UInt8) ≠ 6 from by decide, if_false]
  omega
theorem mv_pos (p q k : Nat) : 0 ≤ src 7 p q k ∧ src 7 p q k ≤ k + 1 + p := by
  simp only [src, show (7 : UInt8) ≠ 4 from by decide, show (7 : UInt8) ≠ 5 from by decide, show (7 : UInt8) ≠ 6 from by decide, if_false]
  omega
theorem mv_at (p q : Nat) : src 7 p q q = p := by simp [src]

set_option maxHeartbeats 6400000 in
theorem moves_walk (a i j : Int) (w : World) (ha : (Lit.int .u8 a).wf = true) (hi : (Lit.int .i64 i).wf = true) (hj : (Lit.int .i64 j).wf = true) :
    Calls Try.prog 9 #[.int .u8 a, .int .i64 i, .int .i64 j] w fun e w' => e = .returned (.bool true) ∧ Below w.heap.size w w' := by
  obtain ⟨m, hm, em⟩ := rem40 ha
  obtain ⟨i0, hi0, _⟩ := run_max0 i hi
  obtain ⟨j0, hj0, _⟩ := run_max0 j hj
  obtain ⟨p, hp, ep⟩ := tmod_nat i0 (m + 1) (by omega)
  obtain ⟨q, hq, eq⟩ := tmod_nat j0 (m + 1) (by omega)
  have HEN := hid (show 1 + (m : Int) = ((m + 1 : Nat) : Int) from by omega)
  have enz : ((m + 1 : Nat) : Int) ≠ 0 := by omega
  have hlen := numsL_len (m + 1)
  obtain ⟨ys, hd, hy, hget⟩ := mv_nums (m + 1) p q hp hq
  have HF := hid (flat_nums (m + 1))
  clear ha hi hj
  have hn40 : m + 1 ≤ 40 := hm
  have HPN := hid (show (numsL (m + 1))[p]? = some (nV 2 (1000 + (p : Int))) from by simp [numsL, hp])
  generalize m + 1 = n at *
  have HL := hid hlen
  have HD := hid hd
  have HY := hid hy
  have HG := hid hget
  clear hd hy hget
  go_enter Try.func9, Try.ntmps9
  go_wp2_with fail
  refine (law_known _).mono ?_
  rintro e w1 ⟨rfl, hE1⟩
  have HE := hid hE1
  clear hE1
  go_wp2_with fail
  rw [HEN.out]
  refine (numbers_ok n w1 (by omega)).mono ?_
  rintro e w2 ⟨v, rfl, ho, hE2⟩
  obtain ⟨A, c, rfl, hc1, hc2⟩ := ho.shape
  have HO := hid ((ho.sl EVal.ok).more EVal.ok (S' := fun _ => True) fun _ _ _ => trivial)
  replace HE := hid (HE.out.ext hE2)
  rw [hlen] at hc1 HO
  rw [hlen]
  clear ho hE2 em HEN hm
  go_wp2_with fail
  refine (do_any (numsL n) ys _ _ 7 p q 0 0 w2 HO.out HF.out (by rw [HL.out]; omega) HD.out).mono ?_
  rintro e w3 ⟨A3, rfl, hl3, hE3⟩
  rw [HY.out] at hl3 ⊢
  replace HO := hid (HO.out.ext EVal.ok hE3)
  replace HE := hid (HE.out.ext hE3)
  have HLY := hid (hl3.more EVal.ok (S' := fun _ => True) fun _ _ _ => trivial)
  clear hE3 HD hl3
  obtain ⟨b1, f1, d1, rfl, _, _, hr1, hc1'⟩ := HO.out.at_ EVal.ok (k := p) (by rw [HL.out]; exact hp)
  obtain ⟨b2, f2, d2, rfl, _, _, hr2, hc2'⟩ := HLY.out.at_ EVal.ok (k := q) (by rw [HY.out]; exact hq)
  obtain ⟨_, _, e1, _⟩ := rdV_iff.1 hr1
  obtain ⟨_, _, e2, _⟩ := rdV_iff.1 hr2
  have x1 := hc1' 1 _ (by rw [e1]; rfl)
  have x2 := hc2' 1 _ (by rw [e2]; rfl)
  rw [show (numsL n)[p]'(by rw [HL.out]; exact hp) = nV 2 (1000 + (p : Int)) from (List.getElem?_eq_some_iff.1 HPN.out).2] at x1
  rw [show ys[q]'(by rw [HY.out]; exact hq) = nV 2 (1000 + src 7 p q q) from (List.getElem?_eq_some_iff.1 (HG.out q hq)).2, mv_at] at x2
  have x1 : w3.cell? ⟨b1, f1 + p * 5 + 1, none⟩ = some (.int .i64 (1000 + (p : Int))) := x1
  have x2 : w3.cell? ⟨b2, f2 + q * 5 + 1, none⟩ = some (.int .i64 (1000 + (p : Int))) := x2
  clear e1 e2 hr1 hr2 hc1' hc2'
  have hpX : (p : Int) < n := by omega
  have hqX : (q : Int) < n := by omega
  go_wp2_with fail
  have enn : ((n : Int) == n) = true := by simp
  have epp : ((1000 + (p : Int)) == 1000 + (p : Int)) = true := by simp
  refine wp_region_grow (specOf []) (fun w' => Ext w3 w') stable_nil (stableC_ext _) (by kernel_rfl) (by kernel_rfl) (Keep.drew (Keep.refl _ _)) ?_
  iterate 22
    (try simp only [Act.put, List.setIfInBounds_toArray, List.set_cons_zero, List.set_cons_succ])
    refine grow_run rfl rfl rfl ?_
    apply Exists.intro
    refine ⟨fun w' hC hK => ?_, ?_⟩
    · have x1 := (hC.cell (lt_of_cell x1) id).trans x1
      have x2 := (hC.cell (lt_of_cell x2) id).trans x2
      go_simp
      rfl
  refine grow_nil fun w4 hC _ => ?_
  have hC : Ext w3 w4 := hC
  replace HLY := hid (HLY.out.ext EVal.ok hC)
  replace HE := hid (HE.out.ext hC)
  clear HO hC x1 x2 HPN
  go_wp2_with fail
  go_loopw [12, 13] (fun x y wr => ∃ (k : Nat) (l : Int), k ≤ n ∧ y = .int .i64 k ∧ x = .int .i64 l ∧ Hid (∀ k' : Nat, k ≤ k' → k' ≠ q → l < 1000 + src 7 p q k') ∧ wr = w4) (fun _ y _ => n - (intOf y).toNat)
  case atStart => exact ⟨0, 0, by omega, rfl, rfl, hid fun k' _ _ => (by have := mv_pos p q k'; omega), rfl⟩
  case round =>
    obtain ⟨k, l, hk, rfl, rfl, hlast, rfl⟩ := hrel
    by_cases hlt : k < n
    · obtain ⟨b3, f3, d3, e3, _, _, hr3, hc3'⟩ := HLY.out.at_ EVal.ok (k := k) (by rw [HY.out]; exact hlt)
      simp at e3
      obtain ⟨rfl, rfl⟩ := e3
      obtain ⟨_, _, e2, _⟩ := rdV_iff.1 hr3
      have x2 := hc3' 1 _ (by rw [e2]; rfl)
      rw [show ys[k]'(by rw [HY.out]; exact hlt) = nV 2 (1000 + src 7 p q k) from (List.getElem?_eq_some_iff.1 (HG.out k hlt)).2] at x2
      have x2 : wr.cell? ⟨b2, f2 + k * 5 + 1, none⟩ = some (.int .i64 (1000 + src 7 p q k)) := x2
      have hkX : (k : Int) < n := by omega
      obtain ⟨z, hz⟩ : ∃ z, z = 1000 + src 7 p q k := ⟨_, rfl⟩
      rw [← hz] at x2
      have HZ := hid hz
      clear e2 hr3 hc3' hz
      by_cases hkq : k = q
      · have ekq : ((k : Int) == q) = true := by simp [hkq]
        go_wp2
        exact ⟨⟨k + 1, l, by omega, by go_num, rfl, hid fun k' h1 h2 => hlast.out k' (by omega) h2, trivial⟩, by simp [intOf]; omega⟩
      · have ekq : ((k : Int) == q) = false := by simp; omega
        have hlz : ¬ z ≤ l := by have := hlast.out k (Nat.le_refl _) hkq; have := HZ.out; omega
        go_wp2
        exact ⟨⟨k + 1, z, by omega, by go_num, rfl, hid fun k' h1 h2 => by rw [HZ.out]; have := mv_order p q k k' (by omega) hkq h2; omega, trivial⟩, by simp [intOf]; omega⟩
    · obtain rfl : k = n := by omega
      go_wp2
      go_ret
      exact ⟨rfl, HE.out.toBelow⟩
end Go.Proofs.Ytimhfkllamimeaa
