/- text: small functions by contract: Len, of, meet, size, known. -/
import Derived.Test.YtepbodopnndfgaaDoorValA
import Derived.Test.YtepbodopnndfgaaDoorGrowAid
import Derived.Test.YtepbodopnndfgaaDoorGrowTail
import Derived.Test.YtepbodopnndfgaaDoorLayRC
import Derived.Lib.MinMax
set_option linter.unusedSimpArgs false
set_option linter.unusedVariables false
namespace Go.Proofs.YtepbodopnndfgaaDoor
open Go.RowKit
set_option linter.unusedVariables false

/-- A component's value; what lies behind the opaque cells does not matter here. -/
abbrev tcV (k : Value) (p key : Value) (i : Int) (j : Value) (n : Int) (v0 v1 v2 v3 v4 s : Value) : Value := .agg #[k, p, key, .int .i64 i, j, .int .i64 n, v0, v1, v2, v3, v4, s]
abbrev TCOMP : Nat := 32
abbrev TSPAN : Nat := 54
def tknown (k : UInt8) : Bool := k == 8 || k == 9
theorem tkind_cases (k : UInt8) : k = 8 ∨ k = 9 ∨ (tknown k = false ∧ ((k.toNat : Int) == 8) = false ∧ ((k.toNat : Int) == 9) = false) := by
  by_cases h8 : k = 8
  · exact .inl h8
  by_cases h9 : k = 9
  · exact .inr (.inl h9)
  have hn : ∀ n : Nat, n < 256 → k ≠ UInt8.ofNat n → ((k.toNat : Int) == (n : Int)) = false := fun n hn h => by
    simp only [beq_eq_false_iff_ne, ne_eq]
    intro e
    apply h
    apply UInt8.toNat.inj
    simp; omega
  exact .inr (.inr ⟨by simp [tknown, h8, h9], hn 8 (by omega) h8, hn 9 (by omega) h9⟩)

theorem ext_iter (w : World) (s : ByteArray) (p : Nat) : Ext w (w.iter s p) := by
  unfold World.iter
  exact (Keep.refl _ _).alloc _
theorem tlen_any (s : ByteArray) (hs : s.size ≤ 140737488355328) (w : World) : Calls Tryd.prog 12 #[.string s] w fun e w' => e = .returned (.int .i64 (Lib.runeCount s : Nat)) ∧ Ext w w' := by
  go_enter Tryd.func12, Tryd.ntmps12
  go_wp2_with fail
  refine (Any.utf8_RuneCountInString Tryd.laysRC s w (by omega)).mono ?_
  rintro e w1 ⟨rfl, p, rfl⟩
  have hE := ext_iter w s p
  generalize w.iter s p = w1 at *
  go_wp2
  go_ret
  exact ⟨rfl, hE⟩
theorem tof_any (k p key j v0 v1 v2 v3 v4 s : Value) (i n : Int) (hi : -1152921504606846976 ≤ i ∧ i ≤ 1152921504606846976) (hn : -1152921504606846976 ≤ n ∧ n ≤ 1152921504606846976) (w : World) :
    Calls Tryd.prog 24 #[tcV k p key i j n v0 v1 v2 v3 v4 s] w fun e w' => e = .returned (.agg #[.int .i64 i, .int .i64 (i + n)]) ∧ Ext w w' := by
  go_enter Tryd.func24, Tryd.ntmps24
  go_wp2
  have hE : Ext w ((w.alloc (.cells #[k, p, key, .int .i64 i, j, .int .i64 n, v0, v1, v2, v3, v4, s] TCOMP)).alloc (.cells #[.int .i64 i, .int .i64 (i + n)] TSPAN)) := ((Keep.refl _ _).alloc _).alloc _
  refine bodyPost_ret (v := .agg #[.int .i64 i, .int .i64 (i + n)]) (by simp [results, Tryd.results24, go_sem]) rfl ⟨rfl, hE⟩
theorem tmeet_any (a b c d : Int) (w : World) :
    Calls Tryd.prog 25 #[.agg #[.int .i64 a, .int .i64 b], .agg #[.int .i64 c, .int .i64 d]] w fun e w' => e = .returned (.agg #[.int .i64 (max a c), .int .i64 (min b d)]) ∧ Ext w w' := by
  go_enter Tryd.func25, Tryd.ntmps25
  go_wp2
  have hE : Ext w (((w.alloc (.cells #[.int .i64 a, .int .i64 b] TSPAN)).alloc (.cells #[.int .i64 c, .int .i64 d] TSPAN)).alloc (.cells #[.int .i64 (max a c), .int .i64 (min b d)] TSPAN)) := (((Keep.refl _ _).alloc _).alloc _).alloc _
  refine bodyPost_ret (v := .agg #[.int .i64 (max a c), .int .i64 (min b d)]) (by simp [results, Tryd.results25, go_sem]) rfl ⟨rfl, hE⟩
theorem tsize_any (a b : Int) (ha : -2305843009213693952 ≤ a ∧ a ≤ 2305843009213693952) (hb : -2305843009213693952 ≤ b ∧ b ≤ 2305843009213693952) (w : World) :
    Calls Tryd.prog 26 #[.agg #[.int .i64 a, .int .i64 b]] w fun e w' => e = .returned (.int .i64 (max (b - a) 0)) ∧ Ext w w' := by
  go_enter Tryd.func26, Tryd.ntmps26
  go_wp2
  go_ret
  exact ⟨rfl, (Keep.refl _ _).alloc _⟩
theorem tknown_any (k : UInt8) (p key j nn v0 v1 v2 v3 v4 s : Value) (i : Value) (w : World) :
    Calls Tryd.prog 14 #[.agg #[U8 k, p, key, i, j, nn, v0, v1, v2, v3, v4, s]] w fun e w' => e = .returned (.bool (tknown k)) ∧ Ext w w' := by
  rcases tkind_cases k with rfl | rfl | ⟨h0, h8, h9⟩
  all_goals
    go_enter Tryd.func14, Tryd.ntmps14
    go_wp2
    go_ret
    exact ⟨by first | rfl | (rw [h0]; rfl), (Keep.refl _ _).alloc _⟩
end Go.Proofs.YtepbodopnndfgaaDoor
