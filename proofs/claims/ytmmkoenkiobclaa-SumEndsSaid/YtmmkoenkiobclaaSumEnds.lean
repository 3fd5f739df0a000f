/- A byte behind tells other bytes apart; the bytes stay: the walk. -/
import Derived.Test.YtmmkoenkiobclaaKnown
import Derived.Test.YtmmkoenkiobclaaCrcLaw
import Derived.Test.YtmmkoenkiobclaaOpen
import Derived.Test.YtmmkoenkiobclaaConv
namespace Go.Proofs.Ytmmkoenkiobclaa
open Go.RowKit
set_option linter.unusedVariables false

/-- '[][]byte{a, {x}}', laid out behind w1. -/
theorem two_rows {w w1 : World} {va : Value} {l : List UInt8} (ha : Bytes w w.heap.size va l) (hE : Ext w w1) (x : UInt8) :
    Bytess ((w1.alloc (.cells #[U8 x] 5)).alloc (.cells #[va, .slice (some ⟨w1.heap.size, 0, none⟩) 1 1] 22)) (w1.heap.size + 2) (.slice (some ⟨w1.heap.size + 1, 0, none⟩) 2 2) [l, [x]] := by
  have hz := hE.size
  have h := Row.new (w := w1.alloc (.cells #[U8 x] 5)) (B := w1.heap.size + 2) (t := 22) (l := [va, .slice (some ⟨w1.heap.size, 0, none⟩) 1 1]) (by simp) (by simp [maxLen])
  have h1 := Row.new (w := w1) (B := w1.heap.size + 2) (t := 5) (l := [U8 x]) (by omega) (by simp [maxLen])
  refine Bytess.two (u := va) (u' := .slice (some ⟨w1.heap.size, 0, none⟩) 1 1) (by simpa using h) (((ha.ext hE).ext (((Keep.refl _ _).alloc _).alloc _)).more (by omega)) ?_
  exact Row.ext h1 ((Keep.refl _ _).alloc _)

theorem flat_two (l : List UInt8) (x : UInt8) : [l, [x]].flatten = l ++ [x] := by simp
theorem ends_same (l : List UInt8) (x y : UInt8) : ((((sumOf (l ++ [x])).toNat : Int) == ((sumOf (l ++ [y])).toNat : Int)) == ((x.toNat : Int) == (y.toNat : Int))) = true := by
  rw [beq_iff_eq, Bool.eq_iff_iff, beq_iff_eq, beq_iff_eq, Int.natCast_inj, Int.natCast_inj]
  constructor
  · intro h; rw [(crc_ends l x y).1 (BitVec.eq_of_toNat_eq h)]
  · intro h; rw [UInt8.toNat_inj.1 h]
set_option maxHeartbeats 800000 in
theorem ends_walk (va : Value) (l : List UInt8) (x y : Int) (w : World) (ha : Bytes w w.heap.size va l) (hx : (Lit.int .u8 x).wf = true) (hy : (Lit.int .u8 y).wf = true) :
    Calls Try.prog 7 #[va, .int .u8 x, .int .u8 y] w fun e w' => e = .returned (.bool true) ∧ Below w.heap.size w w' := by
  obtain ⟨x0, rfl⟩ := u8_of_wf hx
  obtain ⟨y0, rfl⟩ := u8_of_wf hy
  obtain ⟨A, c, rfl, hlc, hcm, hrow⟩ := ha.open_
  unfold maxLen at hcm
  by_cases h1 : l.length ≤ 1500
  · go_enter Try.func7, Try.ntmps7
    go_wp2_with fail
    refine (known_any w).mono ?_
    rintro e w1 ⟨rfl, hE1⟩
    have hcv := convert_bytes (ha.ext hE1)
    go_wp2_with fail
    refine (sum_any _ _ _ _ (two_rows ha hE1 x0)).mono ?_
    rintro e w2 ⟨rfl, hE2⟩
    have hE3 := ((hE1.alloc _).alloc _).ext hE2
    rw [flat_two]
    clear hcv hE2 hE1
    go_wp2_with fail
    refine (sum_any _ _ _ _ (two_rows ha hE3 y0)).mono ?_
    rintro e w4 ⟨rfl, hE4⟩
    have hE5 := ((hE3.alloc _).alloc _).ext hE4
    rw [flat_two]
    have hcv := convert_bytes (ha.ext hE5)
    have heq := ends_same l x0 y0
    clear hE4 hE3
    go_wp2_with fail
    go_ret
    exact ⟨rfl, hE5.toBelow⟩
  · have h2 : 1500 < l.length := by omega
    go_enter Try.func7, Try.ntmps7
    go_wp2_with fail
    refine (known_any w).mono ?_
    rintro e w1 ⟨rfl, hE1⟩
    go_wp2
    go_ret
    exact ⟨rfl, hE1.toBelow⟩
end Go.Proofs.Ytmmkoenkiobclaa
