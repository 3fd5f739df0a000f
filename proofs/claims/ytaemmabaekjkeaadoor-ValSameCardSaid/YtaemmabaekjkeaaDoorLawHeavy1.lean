/- The law's 'heavy' of chapter 01. -/
import Derived.Test.YtaemmabaekjkeaaDoorPathA
import Derived.Test.YtaemmabaekjkeaaDoorToks
set_option linter.unusedSimpArgs false
set_option linter.unusedVariables false
namespace Go.Proofs.YtaemmabaekjkeaaDoor
open Go.RowKit
set_option linter.unusedVariables false

def Heavy1Is (n : Nat) (w : World) (e : Ending) (w' : World) : Prop := ∃ b : Bool, e = .returned (.bool b) ∧ (b = false → n ≤ 200) ∧ Ext w w'
set_option maxHeartbeats 3200000 in
theorem heavy1_ok (w : World) (S : BS) (v : Value) (ts : List Tk) (h : Sl ETok w S v ts) :
    Calls Tryd.prog 9 #[v] w (Heavy1Is ts.length w) := by
  obtain ⟨A, c, rfl, hlc, hcm⟩ := h.shape
  unfold maxLen at hcm
  have HA := hid h
  generalize hn : ts.length = n at *
  have HN := hid hn
  clear h hn
  go_enter Tryd.func9, Tryd.ntmps9
  go_wp2
  go_loop [3, 4] (fun y i => ∃ (z : Int) (j : Nat), y = .int .i64 z ∧ j ≤ n ∧ i = .int .i64 j) (fun _ i => n - (intOf i).toNat)
  case atStart => exact ⟨0, 0, rfl, by omega, rfl⟩
  case round =>
    obtain ⟨z, j, rfl, hj, rfl⟩ := hrel
    by_cases hlt : j < n
    · obtain ⟨b1, o1, c0, rfl, _, _, hrd, hcell⟩ := HA.out.at_ ETok.ok (k := j) (by rw [HN.out]; exact hlt)
      generalize ts[j]'(by rw [HN.out]; exact hlt) = t at *
      obtain rfl : c0 = [U8 t.kind, .int .i64 t.n, .string t.s, U8 t.many] := hrd
      have e2 := hcell 2 _ rfl
      have hz : ETok.size = 4 := rfl
      simp only [hz] at e2
      clear hcell hz
      go_wp2
      go_round
      case rel => exact ⟨_, j + 1, rfl, by omega, by go_num⟩
      case measure => simp [intOf]; omega
    · obtain rfl : j = n := by omega
      by_cases g1 : 200 < j
      · go_wp2
        go_ret
        exact ⟨true, rfl, fun h => by simp at h, Keep.refl _ _⟩
      · by_cases g2 : 3000 < z
        · have g2X : decide ((3000 : Int) < z) = true := by simpa using g2
          clear g2
          go_wp2
          go_ret
          exact ⟨true, by first | rfl | simp, fun h => by simp at h, Keep.refl _ _⟩
        · have g2X : decide ((3000 : Int) < z) = false := by simpa using g2
          have HG := hid (show j ≤ 200 by omega)
          clear g2
          go_wp2
          go_ret
          exact ⟨false, by first | rfl | (simp; omega), fun _ => HG.out, Keep.refl _ _⟩
end Go.Proofs.YtaemmabaekjkeaaDoor
