/- seq.Check by contract. -/
import Derived.Test.YtimhfkllamimeaaSeqA
set_option linter.unusedSimpArgs false
set_option linter.unusedVariables false
namespace Go.Proofs.Ytimhfkllamimeaa
open Go.RowKit
set_option linter.unusedVariables false

def checkL (n : Nat) (k : UInt8) (i j : Int) : Int :=
  if knownL k = false then 31
  else if i < 0 ∨ i > (if k = 4 then (n : Int) else (n : Int) - 1) then 32
  else if k = 7 ∧ (j < 0 ∨ j ≥ (n : Int)) then 32
  else 0

set_option maxHeartbeats 3200000 in
theorem check_any (n : Nat) (k : UInt8) (p key nn v0 v1 v2 v3 v4 s : Value) (i j : Int) (w : World) (hn : n ≤ 1000000000000) :
    Calls Try.prog 19 #[.int .i64 n, cmpV (U8 k) p key i j nn v0 v1 v2 v3 v4 s] w fun e w' => e = .returned (.int .u16 (checkL n k i j)) ∧ Ext w w' := by
  have HN := hid hn
  have hd : (j < 0 ∧ decide (j < 0) = true) ∨ (0 ≤ j ∧ decide (j < 0) = false) := by
    by_cases h : j < 0
    · exact .inl ⟨h, by simpa using h⟩
    · exact .inr ⟨by omega, by simpa using h⟩
  have hA : Blk (w.alloc (.cells #[U8 k, p, key, .int .i64 i, .int .i64 j, nn, v0, v1, v2, v3, v4, s] 29)) w.heap.size 29 #[U8 k, p, key, .int .i64 i, .int .i64 j, nn, v0, v1, v2, v3, v4, s] := Blk.new _ _ _
  have hE1 : Ext w (w.alloc (.cells #[U8 k, p, key, .int .i64 i, .int .i64 j, nn, v0, v1, v2, v3, v4, s] 29)) := (Keep.refl _ _).alloc _
  have HA := hid hA
  have HE1 := hid hE1
  clear hA hE1
  rcases kind_cases k with rfl | rfl | rfl | rfl | ⟨h0, h4, h5, h6, h7⟩
  case' inr.inr.inr.inr => have HK := hid h0
  case' inr.inr.inr.inl => rcases hd with ⟨hj1, hj2⟩ | ⟨hj1, hj2⟩
  all_goals
    go_enter Try.func19, Try.ntmps19
    go_wp2_with (go_at_call 28; refine (known_any _ _ _ _ _ _ _ _ _ _ _ _ _).mono ?_; rintro e w1 ⟨rfl, hT⟩; have hA1 := HA.out.keep hT id; have q0 := hA1.cell 0; have q3 := hA1.cell 3; have q4 := hA1.cell 4; have HT := hid hT; simp at q0 q3 q4; clear hA1 hT)
    all_goals go_ret
    all_goals refine ⟨congrArg (fun z => Ending.returned (.int .u16 z)) (?_ : _ = checkL n _ i j), HE1.out.ext HT.out⟩
    all_goals first | (simp [checkL, HK.out]; done) | (simp [checkL, knownL]; first | done | omega | (intros; split <;> omega) | (split <;> first | omega | rfl | (split <;> first | omega | rfl)))
end Go.Proofs.Ytimhfkllamimeaa
