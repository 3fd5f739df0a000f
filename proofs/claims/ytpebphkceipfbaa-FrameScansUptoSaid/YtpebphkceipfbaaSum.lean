/- sum.Sum: the loops. -/
import Derived.Test.YtpebphkceipfbaaSumA
set_option linter.unusedSimpArgs false
set_option linter.unusedVariables false
namespace Go.Proofs.Ytpebphkceipfbaa
open Go.RowKit
set_option linter.unusedVariables false
set_option maxRecDepth 100000 in
set_option maxHeartbeats 400000 in
/-- 'sum.Sum'. -/
theorem sum_any (B : Nat) (v : Value) (ls : List (List UInt8)) (w : World) (hv : Bytess w B v ls) :
    Calls Try.prog 20 #[v] w fun e w' => e = .returned (U32 (sumOf ls.flatten)) ∧ Ext w w' := by
  obtain ⟨A, c, rfl, hlc, hcm, _⟩ := hv.open_
  unfold maxLen at hcm
  have hz := zero_tab
  have hT0 := Tab.new w
  have hE0 : Ext w (w.alloc (.cells zeroTab TAB)) := (Keep.refl _ _).alloc _
  go_enter Try.func20, Try.ntmps20
  go_wp2
  clear hz
  go_loopw [4, 11] (fun s i w1 => ∃ k : Nat, k ≤ ls.length ∧ i = .int .i64 k ∧ s = U32 (crcOf (ls.take k).flatten) ∧ TabOk w1 w.heap.size ∧ Ext w w1) (fun _ i _ => ls.length - (intOf i).toNat)
  case atStart => exact ⟨0, by omega, rfl, rfl, .inl hT0, hE0⟩
  case round =>
    obtain ⟨k, hk, rfl, rfl, hT, hE⟩ := hrel
    by_cases hlt : k < ls.length
    · obtain ⟨b, off, u, rfl, hb, hcell0, hu⟩ := hv.at_ hlt
      have hcell := (hE.cell (lt_of_cell hcell0) id).trans hcell0
      obtain ⟨A', c', rfl, hlc', hcm', _⟩ := hu.open_
      unfold maxLen at hcm'
      clear hcell0
      go_wp2
      clear hcell
      go_loopw [4, 17] (fun s j w1 => ∃ m : Nat, m ≤ ls[k].length ∧ j = .int .i64 m ∧ s = U32 (crcOf ((ls.take k).flatten ++ ls[k].take m)) ∧ TabOk w1 w.heap.size ∧ Ext w w1) (fun _ j _ => ls[k].length - (intOf j).toNat)
      case atStart => exact ⟨0, by omega, rfl, by simp, hT, hE⟩
      case round =>
        rename_i wo _
        obtain ⟨m, hm, rfl, rfl, hT1, hE1⟩ := hrel
        by_cases hlt2 : m < ls[k].length
        · obtain ⟨b2, off2, rfl, hb2, hcell2⟩ := (hu.ext hE1).at_ hlt2
          go_wp2_with (go_at_call 28; refine (step_any _ _ _ _ hT1).mono ?_; rintro e w' ⟨rfl, hT2, hK2⟩)
          have hE2 : Ext w w' := hE1.trans hK2 fun k hk e => by omega
          go_roundw
          case rel => exact ⟨m + 1, by omega, by go_num, by rw [take_succ_get _ _ hlt2, ← List.append_assoc, crcOf_snoc], hT2, hE2⟩
          case measure => simp [intOf]; omega
        · obtain rfl : m = ls[k].length := by omega
          go_wp2
          go_roundw
          case rel => exact ⟨k + 1, by omega, by go_num, by rw [take_succ_get _ _ hlt, List.flatten_append]; simp, hT1, hE1⟩
          case measure => simp [intOf]; omega
    · obtain rfl : k = ls.length := by omega
      rw [List.take_length]
      go_wp2
      go_ret
      exact ⟨ret_int (not_form _), hE⟩
end Go.Proofs.Ytpebphkceipfbaa
