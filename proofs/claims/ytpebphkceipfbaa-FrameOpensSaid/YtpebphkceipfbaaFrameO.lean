/- Open and Scan of any bytes are what the chapter says: the walk. -/
import Derived.Test.YtpebphkceipfbaaFrameT
import Derived.Test.YtpebphkceipfbaaFrameW
set_option linter.unusedSimpArgs false
set_option linter.unusedVariables false
namespace Go.Proofs.Ytpebphkceipfbaa
open Go.RowKit
set_option linter.unusedVariables false

theorem scanL_le (n : Nat) : ∀ b : List UInt8, b.length ≤ n → (scanL b).2 ≤ b.length ∧ (scanL b).1.length ≤ b.length := by
  induction n with
  | zero => intro b h; cases ho : openL b with
    | none => rw [scanL_none ho]; exact ⟨Nat.zero_le _, Nat.zero_le _⟩
    | some x => have := openL_length ho; omega
  | succ n ih => intro b h; cases ho : openL b with
    | none => rw [scanL_none ho]; exact ⟨Nat.zero_le _, Nat.zero_le _⟩
    | some x =>
      have h1 := openL_length ho
      have h2 := ih (b.drop (8 + x.length)) (by simp; omega)
      rw [scanL_some ho]
      simp only [List.length_drop] at h2
      refine ⟨by simp only []; omega, ?_⟩
      rw [List.length_cons]; omega

set_option maxRecDepth 100000 in
set_option maxHeartbeats 1600000 in
theorem opens_walk (v : Value) (l : List UInt8) (w : World) (hb : Bytes w w.heap.size v l) :
    Calls Try.prog 6 #[v] w fun e w' => e = .returned (.bool true) ∧ Below w.heap.size w w' := by
  have hv := bytesS_of hb
  clear hb
  obtain ⟨A, c, rfl, h1, h2⟩ := hv.shape
  unfold maxLen at h2
  have HV := hid (bytes_any hv)
  clear hv
  by_cases hl : 1500 < l.length
  · go_enter Try.func6, Try.ntmps6
    go_wp2_with fail
    refine (known_any _).mono ?_
    rintro e w1 ⟨rfl, hE1⟩
    have HE := hid hE1
    clear hE1
    go_wp2
    go_ret
    exact ⟨rfl, HE.out.toBelow⟩
  · go_enter Try.func6, Try.ntmps6
    go_wp2_with fail
    refine (known_any _).mono ?_
    rintro e w1 ⟨rfl, hE1⟩
    have HE := hid hE1
    have HV1 := hid (HV.out.ext EU8.ok hE1)
    clear hE1
    go_wp2_with fail
    refine (open_all _ _ _ _ HV1.out).mono ?_
    rintro e w2 ⟨Ax, cx, rfl, hx, hE2⟩
    have HE2 := hid (HE.out.ext hE2)
    have HX := hid (bytes_any hx)
    have HV2 := hid (HV1.out.ext EU8.ok hE2)
    clear hE2 hx HV1 HE
    go_wp2_with fail
    refine (ref_open_all _ _ _ _ HV2.out).mono ?_
    rintro e w3 ⟨Ay, cy, rfl, hy, hE3⟩
    have HE3 := hid (HE2.out.ext hE3)
    have HX3 := hid (HX.out.ext EU8.ok hE3)
    have HY := hid (bytes_any hy)
    have HV3 := hid (HV2.out.ext EU8.ok hE3)
    clear hE3 hy HV2 HE2 HX
    go_wp2_with fail
    refine (scan_any _ _ _ _ HV3.out (by omega)).mono ?_
    rintro e w4 ⟨vl, rfl, hsl, hE4⟩
    obtain ⟨Al, cl, rfl, _⟩ := hsl.shape
    have HE4 := hid (HE3.out.ext hE4)
    have HX4 := hid (HX3.out.ext EU8.ok hE4)
    have HY4 := hid (HY.out.ext EU8.ok hE4)
    have HV4 := hid (HV3.out.ext EU8.ok hE4)
    have HL := hid (hsl.more (S' := fun _ => True) EBytes.ok fun _ _ _ => trivial)
    clear hE4 hsl HV3 HE3 HX3 HY
    go_wp2_with fail
    refine (ref_scan _ _ _ _ HV4.out (by omega)).mono ?_
    rintro e w5 ⟨vk, rfl, hsk, hE5⟩
    obtain ⟨Ak, ck, rfl, _⟩ := hsk.shape
    have HE5 := hid (HE4.out.ext hE5)
    have HX5 := hid (HX4.out.ext EU8.ok hE5)
    have HY5 := hid (HY4.out.ext EU8.ok hE5)
    have HL5 := hid (HL.out.ext EBytes.ok hE5)
    have HK := hid (hsk.more (S' := fun _ => True) EBytes.ok fun _ _ _ => trivial)
    clear hE5 hsk HV4 HE4 HX4 HY4 HL
    have hee := openE_le l
    generalize openE l = ee at *
    generalize openN l = nn at *
    generalize openX l = xx at *
    generalize (scanL l).1 = ls at *
    generalize (scanL l).2 = en at *
    generalize ht : textOf xx = tx
    have HT := hid ht
    clear ht
    have hcx := convert_bytesS HX5.out
    have hcy := convert_bytesS HY5.out
    rw [HT.out] at hcx hcy
    go_wp2_with fail
    refine (same12_yes w5 _ _ _ _ ls HL5.out HK.out).mono ?_
    rintro e w9 ⟨rfl, h2⟩
    have H14 := hid (HE5.out.ext h2)
    clear h2 HX5 HY5 HL5 HK HE5 hcx hcy
    go_wp2
    go_ret
    exact ⟨rfl, H14.out.toBelow⟩
end Go.Proofs.Ytpebphkceipfbaa
