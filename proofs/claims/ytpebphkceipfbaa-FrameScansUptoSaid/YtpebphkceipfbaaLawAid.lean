/- Small laws for the walks of this chapter. -/
import Derived.Test.YtpebphkceipfbaaRows
import Derived.Test.YtpebphkceipfbaaCrcLaw
import Derived.Test.YtpebphkceipfbaaAppend
set_option linter.unusedSimpArgs false
set_option linter.unusedVariables false
namespace Go.Proofs.Ytpebphkceipfbaa
open Go.RowKit
theorem run_max0 (i : Int) : ∃ i0 : Nat, ∀ w, (Builtin.max_ #[3, 3] 3 #[.int .i64 i, .int .i64 0]).run Try.prog w = .ok (.int .i64 i0) w := by
  refine ⟨(max i 0).toNat, fun w => ?_⟩
  rw [run_max_int2, show (((max i 0).toNat : Nat) : Int) = if 0 > i then 0 else i from by split <;> omega]

theorem xor_u8 (a b : UInt8) : bits .xor .u8 (a.toNat : Int) (b.toNat : Int) = ((a ^^^ b).toNat : Int) := by
  rw [u8_xor_nat _ _ a.toNat_lt b.toNat_lt, UInt8.toNat_xor]
theorem turned_cells (l : List UInt8) (k : Nat) (x : UInt8) (hk : k < l.length) : (l.map U8).set k (U8 (l[k] ^^^ x)) = (turned l k x).map U8 := by
  unfold turned
  apply List.ext_getElem
  · simp
  · intro i h1 h2
    simp only [List.getElem_set, List.getElem_map, List.getElem_modify]
    split <;> simp_all
end Go.Proofs.Ytpebphkceipfbaa
