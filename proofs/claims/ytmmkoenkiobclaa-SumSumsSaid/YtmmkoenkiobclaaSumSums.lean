/- Sum of any bytes is what the chapter says: the walk. -/
import Derived.Test.YtmmkoenkiobclaaKnown
import Derived.Test.YtmmkoenkiobclaaGrow
namespace Go.Proofs.Ytmmkoenkiobclaa
open Go.RowKit
set_option linter.unusedVariables false

set_option maxHeartbeats 400000 in
theorem sums_walk (va : Value) (la : List UInt8) (vb : Value) (lb : List UInt8) (w : World) (ha : Bytes w w.heap.size va la) (hb : Bytes w w.heap.size vb lb) :
    Calls Try.prog 4 #[va, vb] w fun e w' => e = .returned (.bool true) ∧ Below w.heap.size w w' := by
  obtain ⟨A, c, rfl, hlc, hcm, _⟩ := ha.open_
  obtain ⟨A', c', rfl, hlc', hcm', _⟩ := hb.open_
  unfold maxLen at hcm hcm'
  by_cases h1 : la.length ≤ 1500 ∧ lb.length ≤ 1500
  · obtain ⟨h1, h2⟩ := h1
    go_enter Try.func4, Try.ntmps4
    go_wp2_with fail
    refine (known_any w).mono ?_
    rintro e w1 ⟨rfl, hE1⟩
    go_wp2_with fail
    have hb2 : Bytess (w1.alloc (.cells #[.slice A la.length c, .slice A' lb.length c'] 22)) (w1.heap.size + 1) (.slice (some ⟨w1.heap.size, 0, none⟩) 2 2) [la, lb] :=
      Bytess.two (Row.new (l := [_, _]) (by omega) (by simp [maxLen])) (((ha.ext hE1).ext ((Keep.refl _ _).alloc _)).more (by have := hE1.size; omega)) (((hb.ext hE1).ext ((Keep.refl _ _).alloc _)).more (by have := hE1.size; omega))
    refine (sum_any _ _ _ _ hb2).mono ?_
    rintro e w2 ⟨rfl, hE2⟩
    have hEE := (hE1.alloc _).ext hE2
    clear hb2 hE2 hE1
    go_wp2_with fail
    have hb2 : Bytess (w2.alloc (.cells #[.slice A la.length c, .slice A' lb.length c'] 22)) (w2.heap.size + 1) (.slice (some ⟨w2.heap.size, 0, none⟩) 2 2) [la, lb] :=
      Bytess.two (Row.new (l := [_, _]) (by omega) (by simp [maxLen])) (((ha.ext hEE).ext ((Keep.refl _ _).alloc _)).more (by have := hEE.size; omega)) (((hb.ext hEE).ext ((Keep.refl _ _).alloc _)).more (by have := hEE.size; omega))
    refine (ref_sum_ext _ _ _ _ hb2).mono ?_
    rintro e w3 ⟨rfl, hE3⟩
    have hE := (hEE.alloc _).ext hE3
    clear hb2 hE3 hEE
    go_wp2_with fail
    have hb2 : Bytess (w3.alloc (.cells #[.slice A' lb.length c'] 22)) (w3.heap.size + 1) (.slice (some ⟨w3.heap.size, 0, none⟩) 1 1) [lb] :=
      Bytess.one (Row.new (l := [_]) (by omega) (by simp [maxLen])) (((hb.ext hE).ext ((Keep.refl _ _).alloc _)).more (by have := hE.size; omega))
    refine (sum_any _ _ _ _ hb2).mono ?_
    rintro e w4 ⟨rfl, hE4⟩
    have hF := (hE.alloc _).ext hE4
    clear hb2 hE4 hE
    go_wp2_with fail
    have hb2 : Bytess (w4.alloc (.cells #[.slice A' lb.length c'] 22)) (w4.heap.size + 1) (.slice (some ⟨w4.heap.size, 0, none⟩) 1 1) [lb] :=
      Bytess.one (Row.new (l := [_]) (by omega) (by simp [maxLen])) (((hb.ext hF).ext ((Keep.refl _ _).alloc _)).more (by have := hF.size; omega))
    refine (ref_sum_ext _ _ _ _ hb2).mono ?_
    rintro e w5 ⟨rfl, hE5⟩
    have hG := (hF.alloc _).ext hE5
    clear hb2 hE5 hF
    go_wp2
    go_ret
    exact ⟨rfl, hG.toBelow⟩
  · rcases Nat.lt_or_ge 1500 la.length with h2 | h2
    · go_enter Try.func4, Try.ntmps4
      go_wp2_with fail
      refine (known_any w).mono ?_
      rintro e w1 ⟨rfl, hE1⟩
      go_wp2
      go_ret
      exact ⟨rfl, hE1.toBelow⟩
    · have h3 : 1500 < lb.length := by omega
      go_enter Try.func4, Try.ntmps4
      go_wp2_with fail
      refine (known_any w).mono ?_
      rintro e w1 ⟨rfl, hE1⟩
      go_wp2
      go_ret
      exact ⟨rfl, hE1.toBelow⟩
end Go.Proofs.Ytmmkoenkiobclaa
