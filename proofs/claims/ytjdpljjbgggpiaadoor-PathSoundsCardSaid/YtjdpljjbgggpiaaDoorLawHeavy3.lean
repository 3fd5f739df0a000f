/- The law's 'heavy' of chapter 03. -/
import Derived.Test.YtjdpljjbgggpiaaDoorPathB
import Derived.Test.YtjdpljjbgggpiaaDoorToks
set_option linter.unusedSimpArgs false
set_option linter.unusedVariables false
namespace Go.Proofs.YtjdpljjbgggpiaaDoor
open Go.RowKit
set_option linter.unusedVariables false

def HeavyIs (n m : Nat) (w : World) (e : Ending) (w' : World) : Prop := ∃ b : Bool, e = .returned (.bool b) ∧ (b = false → n ≤ 200 ∧ m ≤ 40) ∧ Ext w w'
set_option maxHeartbeats 3200000 in
theorem heavy_ok (w : World) (S S2 : BS) (v pv : Value) (ts : List Tk) (p : List St) (h : Sl ETok w S v ts) (hp : Sl ESt w S2 pv p) :
    Calls Tryd.prog 10 #[v, pv] w (HeavyIs ts.length p.length w) := by
  obtain ⟨A, c, rfl, hlc, hcm⟩ := h.shape
  obtain ⟨A2, c2, rfl, hlc2, hcm2⟩ := hp.shape
  unfold maxLen at hcm hcm2
  have HA := hid h
  have HP := hid hp
  generalize hn : ts.length = n at *
  generalize hm : p.length = m at *
  have HN := hid (And.intro hn hm)
  clear h hp hn hm
  go_enter Tryd.func10, Tryd.ntmps10
  go_wp2
  go_loop [5, 6] (fun y i => ∃ (z : Int) (j : Nat), y = .int .i64 z ∧ j ≤ n ∧ i = .int .i64 j) (fun _ i => n - (intOf i).toNat)
  case atStart => exact ⟨0, 0, rfl, by omega, rfl⟩
  case round =>
    obtain ⟨z, j, rfl, hj, rfl⟩ := hrel
    by_cases hlt : j < n
    · obtain ⟨b1, o1, c0, rfl, _, _, hrd, hcell⟩ := HA.out.at_ ETok.ok (k := j) (by rw [HN.out.1]; exact hlt)
      generalize ts[j]'(by rw [HN.out.1]; exact hlt) = t at *
      obtain rfl : c0 = [U8 t.kind, .int .i64 t.n, .string t.s, U8 t.many] := hrd
      have e2 := hcell 2 _ rfl
      have hz : ETok.size = 4 := rfl
      simp only [hz] at e2
      clear hcell hz
      go_wp2
      go_round
      case rel => exact ⟨_, j + 1, rfl, by omega, by go_num⟩
      case measure => simp [intOf]; omega
    · obtain rfl : j = n := by omega
      go_wp2
      go_loop [5, 7] (fun y i => ∃ (z : Int) (j : Nat), y = .int .i64 z ∧ j ≤ m ∧ i = .int .i64 j) (fun _ i => m - (intOf i).toNat)
      case atStart => exact ⟨z, 0, rfl, by omega, rfl⟩
      case round =>
        obtain ⟨z2, i, rfl, hj, rfl⟩ := hrel
        by_cases hlt : i < m
        · obtain ⟨b1, o1, c0, rfl, _, _, hrd, hcell⟩ := HP.out.at_ ESt.ok (k := i) (by rw [HN.out.2]; exact hlt)
          generalize p[i]'(by rw [HN.out.2]; exact hlt) = t at *
          obtain rfl : c0 = [.bool t.list, .int .i64 t.i, .string t.key] := hrd
          have e2 := hcell 2 _ rfl
          have hz : ESt.size = 3 := rfl
          simp only [hz] at e2
          clear hcell hz
          go_wp2
          go_round
          case rel => exact ⟨_, i + 1, rfl, by omega, by go_num⟩
          case measure => simp [intOf]; omega
        · obtain rfl : i = m := by omega
          by_cases g1 : 200 < j
          · go_wp2
            go_ret
            exact ⟨true, rfl, fun h => by simp at h, Keep.refl _ _⟩
          · by_cases g2 : 3000 < z2
            · go_wp2
              go_ret
              exact ⟨true, rfl, fun h => by simp at h, Keep.refl _ _⟩
            · by_cases g3 : 40 < i
              · have g3X : decide ((40 : Int) < (i : Int)) = true := by simp; omega
                clear g3
                go_wp2
                go_ret
                exact ⟨true, rfl, fun h => by simp at h, Keep.refl _ _⟩
              · have g3X : decide ((40 : Int) < (i : Int)) = false := by simp; omega
                have HG := hid (show j ≤ 200 ∧ i ≤ 40 by omega)
                clear g3
                go_wp2
                go_ret
                exact ⟨false, by first | rfl | (simp; omega), fun _ => HG.out, Keep.refl _ _⟩
end Go.Proofs.YtjdpljjbgggpiaaDoor
