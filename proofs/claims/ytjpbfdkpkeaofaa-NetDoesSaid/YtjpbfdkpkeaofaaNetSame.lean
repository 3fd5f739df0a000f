/- The reference's Same, at like lists; heavy; known. -/
import Derived.Test.YtjpbfdkpkeaofaaNetCutC
import Derived.Test.YtjpbfdkpkeaofaaConvS
set_option linter.unusedSimpArgs false
set_option linter.unusedVariables false
namespace Go.Proofs.Ytjpbfdkpkeaofaa
open Go.RowKit
set_option linter.unusedVariables false

set_option maxHeartbeats 1600000 in
theorem same_yes (w : World) (S S' : BS) (va vb : Value) (ms : List Mail) (ha : Sl EMail w S va ms) (hb : Sl EMail w S' vb ms) :
    Calls Try.prog 11 #[va, vb] w fun e w' => e = .returned (.bool true) ∧ Ext w w' := by
  obtain ⟨A, ca, rfl, hla, hca⟩ := ha.shape
  obtain ⟨B, cb, rfl, hlb, hcb⟩ := hb.shape
  unfold maxLen at hca hcb
  have HA := hid ha
  have HB := hid hb
  generalize hn : ms.length = n at *
  have HN := hid hn
  clear ha hb hn
  go_enter Try.func11, Try.ntmps11
  go_wp2
  go_loopw [5] (fun i wr => ∃ j : Nat, j ≤ n ∧ i = .int .i64 j ∧ Ext w wr) (fun i _ => n - (intOf i).toNat)
  case atStart => exact ⟨0, by omega, rfl, Keep.refl _ _⟩
  case round =>
    obtain ⟨j, hj, rfl, hE⟩ := hrel
    by_cases hlt : j < n
    · have hjm : j < ms.length := by rw [HN.out]; exact hlt
      obtain ⟨b1, o1, c1, rfl, _, _, hr1, hc1⟩ := (HA.out.ext EMail.ok hE).at_ EMail.ok hjm
      obtain ⟨b2, o2, c2, rfl, _, _, hr2, hc2⟩ := (HB.out.ext EMail.ok hE).at_ EMail.ok hjm
      generalize hm : ms[j]'hjm = m at *
      obtain ⟨bv1, rfl, hv1⟩ := hr1
      obtain ⟨bv2, rfl, hv2⟩ := hr2
      have e0 := hc1 0 _ rfl
      have e1 := hc1 1 _ rfl
      have e2 := hc1 2 _ rfl
      have f0 := hc2 0 _ rfl
      have f1 := hc2 1 _ rfl
      have f2 := hc2 2 _ rfl
      have hz3 : EMail.size = 3 := rfl
      simp only [hz3] at e0 e1 e2 f0 f1 f2
      rw [Nat.add_zero] at e0 f0
      obtain ⟨A1, d1, rfl, _⟩ := hv1.shape
      obtain ⟨A2, d2, rfl, _⟩ := hv2.shape
      have HE := hid hE
      clear hz3 hc1 hc2 hm hE
      go_wp2
      refine wp_region_grow (specOf []) (fun w' => Ext wr w') stable_nil (stableC_ext _) (by kernel_rfl) (by kernel_rfl) (Keep.drew (Keep.refl _ _)) ?_
      iterate 39
        (try simp only [Act.put, List.setIfInBounds_toArray, List.set_cons_zero, List.set_cons_succ])
        refine grow_run rfl rfl rfl ?_
        apply Exists.intro
        refine ⟨fun w' hC hK => ?_, ?_⟩
        · have e0 := (hC.cell (lt_of_cell e0) id).trans e0
          have e1 := (hC.cell (lt_of_cell e1) id).trans e1
          have e2 := (hC.cell (lt_of_cell e2) id).trans e2
          have f0 := (hC.cell (lt_of_cell f0) id).trans f0
          have f1 := (hC.cell (lt_of_cell f1) id).trans f1
          have f2 := (hC.cell (lt_of_cell f2) id).trans f2
          have hcv1 := convert_bytesS (hv1.ext EU8.ok hC)
          have hcv2 := convert_bytesS (hv2.ext EU8.ok hC)
          go_simp
          rfl
      refine grow_nil fun w' hC _ => ?_
      have HE := hid (HE.out.ext hC)
      clear hv1 hv2 hC e0 e1 e2 f0 f1 f2
      go_wp2
      exact ⟨⟨j + 1, by omega, by go_num, HE.out⟩, by simp [intOf]; omega⟩
    · obtain rfl : j = n := by omega
      have HE := hid hE
      clear hE
      go_wp2
      go_ret
      exact ⟨rfl, HE.out⟩
end Go.Proofs.Ytjpbfdkpkeaofaa
