/- Frames: the chapter's example. -/
import Derived.Test.YtpebphkceipfbaaFrameR
set_option linter.unusedSimpArgs false
set_option linter.unusedVariables false
namespace Go.Proofs.Ytpebphkceipfbaa
open Go.RowKit
set_option linter.unusedVariables false

theorem frm_nil : frm [] = [0, 0, 0, 0, 33, 68, 223, 28] := by decide +kernel
theorem open_one : openL [1] = none := by decide +kernel
theorem slice_nil_eq {w : World} {base : Nat} {T : TypeId} {S : BS} {v : Value} (h : Own EU8 w base T S v []) : ∃ A c, v = .slice A 0 c := by
  obtain ⟨A, c, e, _⟩ := h.shape; exact ⟨A, c, e⟩

set_option maxHeartbeats 800000 in
theorem known_any (w : World) : Calls Try.prog 8 #[] w fun e w' => e = .returned (.bool true) ∧ Ext w w' := by
  go_enter Try.func8, Try.ntmps8
  go_wp2_with fail
  refine (wrap_ok _ [] (fun _ => False) _ (Sl.nil _ _) (by simp)).mono ?_
  rintro e w1 ⟨v1, rfl, ho1, hE1⟩
  rw [frm_nil] at ho1
  obtain ⟨A1, c1, rfl, _⟩ := ho1.shape
  have HO1 := hid (own_new ho1)
  have HE1 := hid hE1
  clear ho1 hE1
  go_wp2_with fail
  refine (open_any _ _ _ _ HO1.out).mono ?_
  rintro e w2 h
  have ho : openL [0, 0, 0, 0, 33, 68, 223, 28] = some [] := by decide +kernel
  unfold OpenIs at h
  rw [ho] at h
  obtain ⟨v2, rfl, hv2, hE2⟩ := h
  obtain ⟨A2, c2, rfl, _⟩ := hv2.shape
  have HE2 := hid (HE1.out.ext hE2)
  have HO2 := hid (HO1.out.ext EU8.ok hE2)
  clear hv2 hE2 ho HO1 HE1
  go_wp2_with fail
  refine (open_any _ [1] _ _ (bytes_new (w := w2) (t := 5) (f := (0, 0)) [1] (by simp [maxLen]))).mono ?_
  rintro e w3 h
  unfold OpenIs at h
  rw [open_one] at h
  obtain ⟨rfl, hE3⟩ := h
  have hA : Ext w2 w3 := Keep.ext ((Keep.refl _ _).alloc _) hE3
  have HE3 := hid (HE2.out.ext hA)
  have hcv := convert_bytesS (HO2.out.ext EU8.ok hA)
  have hcv' : (convert 22 9 (.slice A1 8 c1)).run Try.prog w3 = .ok (.string ⟨#[0, 0, 0, 0, 33, 68, 223, 28]⟩) w3 := hcv
  clear hE3 hA HE2 HO2 hcv
  go_wp2
  go_ret
  exact ⟨rfl, HE3.out⟩
end Go.Proofs.Ytpebphkceipfbaa
