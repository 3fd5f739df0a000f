/- Frames: 'Wrap' of the program and of its reference, by contract. -/
import Derived.Test.YtpebphkceipfbaaFrameA
import Derived.Test.YtpebphkceipfbaaConcat
import Derived.Test.YtpebphkceipfbaaConvS
import Derived.Test.YtpebphkceipfbaaGrowAid
set_option linter.unusedSimpArgs false
set_option linter.unusedVariables false
namespace Go.Proofs.Ytpebphkceipfbaa
open Go.RowKit
set_option linter.unusedVariables false

set_option maxHeartbeats 800000 in
theorem wrap_ok (v : Value) (l : List UInt8) (S : BS) (w : World) (hv : BytesS w S v l) (hl : l.length ≤ 60000) :
    Calls Try.prog 9 #[v] w fun e w' => ∃ v', e = .returned (.tuple #[v', .int .u16 0]) ∧ Own EU8 w' w.heap.size 5 (fun _ => False) v' (frm l) ∧ Ext w w' := by
  obtain ⟨A, c, rfl, h1, h2⟩ := hv.shape
  unfold maxLen at h2
  have hli : (l.length : Int) ≤ 60000 := by omega
  go_enter Try.func9, Try.ntmps9
  go_wp2_with fail
  refine (four_any l.length (by omega) _).mono ?_
  rintro e w1 ⟨v1, rfl, hv1, hE1⟩
  obtain ⟨A1, c1, rfl, _⟩ := hv1.shape
  rw [fourL_length] at hv1 ⊢
  have HV1 := hid hv1
  have HE1 := hid hE1
  have HV := hid hv
  clear hv1 hE1 hv
  go_wp2_with fail
  refine (sum_any _ _ _ _ (bytess_two (t := 22) (f := (0, 0)) HV1.out (HV.out.ext EU8.ok HE1.out))).mono ?_
  rintro e w2 ⟨rfl, hE2⟩
  have HE2 := hid ((Keep.alloc HE1.out _).ext hE2)
  have HV2 := hid ((HV1.out.ext EU8.ok ((Keep.refl _ _).alloc _)).ext EU8.ok hE2)
  rw [show [fourL l.length, l].flatten = fourL l.length ++ l from by simp]
  have hlt := (sumOf (fourL l.length ++ l)).isLt
  unfold U32
  generalize hs : (sumOf (fourL l.length ++ l)).toNat = s at *
  have HS := hid hs
  clear hE2 hs
  go_wp2_with fail
  refine (four_any s hlt _).mono ?_
  rintro e w3 ⟨v3, rfl, hv3, hE3⟩
  obtain ⟨A3, c3, rfl, _⟩ := hv3.shape
  rw [fourL_length] at hv3 ⊢
  have HV3 := hid hv3
  have HV4 := hid (HV2.out.ext EU8.ok hE3)
  have HE3 := hid (HE2.out.ext hE3)
  clear hv3 hE3 HV1 HE1 HE2 HV2
  go_wp2_with fail
  refine (concat_any _ _ _ _ (sl_three (t := 22) (f := (0, 0)) (S := fun _ => True) (HV4.out.more EU8.ok fun _ _ _ => trivial) (HV3.out.more EU8.ok fun _ _ _ => trivial) ((HV.out.ext EU8.ok HE3.out).more EU8.ok fun _ _ _ => trivial)) ?_).mono ?_
  · simp [fourL]; omega
  rintro e w5 ⟨v5, rfl, ho5, hE5⟩
  have hE : Ext w w5 := (Keep.alloc HE3.out _).ext hE5
  rw [show [fourL l.length, fourL s, l].flatten = frm l from by simp [frm, HS.out]] at ho5
  have HO := hid (ho5.less (b' := w.heap.size) (by have := HE3.out.size; simp; omega))
  have HE := hid hE
  clear ho5 hE hE5
  go_wp2
  go_ret2
  exact ⟨_, rfl, HO.out, HE.out⟩
set_option maxHeartbeats 800000 in
theorem wrap_long (v : Value) (l : List UInt8) (S : BS) (w : World) (hv : BytesS w S v l) (hl : 60000 < l.length) :
    Calls Try.prog 9 #[v] w fun e w' => e = .returned (.tuple #[.slice none 0 0, .int .u16 3]) ∧ w = w' := by
  obtain ⟨A, c, rfl, h1, h2⟩ := hv.shape
  unfold maxLen at h2
  have hli : 60000 < (l.length : Int) := by omega
  go_enter Try.func9, Try.ntmps9
  go_wp2
  go_ret2
  exact ⟨rfl, rfl⟩
end Go.Proofs.Ytpebphkceipfbaa
