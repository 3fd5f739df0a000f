/- The chapter's example. -/
import Derived.Test.YtmmkoenkiobclaaRefSum
import Derived.Lib.SlBytesConst
namespace Go.Proofs.Ytmmkoenkiobclaa
open Go.RowKit
set_option linter.unusedVariables false

theorem crc_example : sumOf [49, 50, 51, 52, 53, 54, 55, 56, 57] = 3421780262#32 := by decide +kernel
theorem crc_none : sumOf [] = 0#32 := by decide +kernel

set_option maxHeartbeats 400000 in
theorem known_any (w : World) : Calls Try.prog 8 #[] w fun e w' => e = .returned (.bool true) ∧ Ext w w' := by
  have kc := fun (w : World) (C : Array Value) (n c : Nat) => Lib.run_convert_bytes_const (P := Try.prog) w 22 5 C n c Try.underlying22 Try.underlying5
  go_enter Try.func8, Try.ntmps8
  go_wp2_with fail
  have hb : Bytess ((w.alloc (.cells #[.int .u8 49, .int .u8 50, .int .u8 51, .int .u8 52, .int .u8 53, .int .u8 54, .int .u8 55, .int .u8 56, .int .u8 57] 5 (9, 10))).alloc (.cells #[.slice (some ⟨w.heap.size, 0, none⟩) 9 9] 22)) (w.heap.size + 2) (.slice (some ⟨w.heap.size + 1, 0, none⟩) 1 1) [[49, 50, 51, 52, 53, 54, 55, 56, 57]] := by
    refine Bytess.one (u := .slice (some ⟨w.heap.size, 0, none⟩) 9 9) ?_ ?_
    · have h := Row.new (w := w.alloc (.cells #[.int .u8 49, .int .u8 50, .int .u8 51, .int .u8 52, .int .u8 53, .int .u8 54, .int .u8 55, .int .u8 56, .int .u8 57] 5 (9, 10))) (B := w.heap.size + 2) (t := 22) (l := [.slice (some ⟨w.heap.size, 0, none⟩) 9 9]) (by simp) (by simp [maxLen])
      simpa using h
    · have h := Row.new (w := w) (B := w.heap.size + 2) (t := 5) (f := (9, 10)) (l := ([49, 50, 51, 52, 53, 54, 55, 56, 57] : List UInt8).map U8) (by omega) (by simp [maxLen])
      exact Row.ext h ((Keep.refl _ _).alloc _)
  refine (sum_any _ _ _ _ hb).mono ?_
  rintro e w1 ⟨rfl, hE1⟩
  have hE : Ext w w1 := (((Keep.refl _ _).alloc _).alloc _).ext hE1
  rw [show [[49, 50, 51, 52, 53, 54, 55, 56, 57]].flatten = ([49, 50, 51, 52, 53, 54, 55, 56, 57] : List UInt8) from rfl, crc_example]
  clear hb hE1
  go_wp2_with fail
  refine (sum_any _ _ _ _ (Bytess.nil w1 0)).mono ?_
  rintro e w2 ⟨rfl, hE2⟩
  rw [show [].flatten = ([] : List UInt8) from rfl, crc_none]
  go_wp2
  go_ret
  exact ⟨rfl, hE.ext hE2⟩
end Go.Proofs.Ytmmkoenkiobclaa
