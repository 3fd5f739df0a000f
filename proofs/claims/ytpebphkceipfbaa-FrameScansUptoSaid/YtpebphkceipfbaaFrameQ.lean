/- Frames one behind the other are read as they were laid; cut anywhere a front of them is: the walk, where the input is of bulk at most 1048576. -/
import Derived.Test.YtpebphkceipfbaaFrameP
set_option linter.unusedSimpArgs false
set_option linter.unusedVariables false
namespace Go.Proofs.Ytpebphkceipfbaa
open Go.RowKit
set_option linter.unusedVariables false

set_option maxRecDepth 100000 in
set_option maxHeartbeats 3200000 in
theorem scans_walk (v : Value) (ls : List (List UInt8)) (k : Int) (w : World) (hv : Sl EBytes w (fun k => k < w.heap.size) v ls) (hq : ls.length ≤ 1048576 ∧ ∀ x ∈ ls, x.length ≤ 1048576) (hi : (Lit.int .i64 k).wf = true) :
    Calls Try.prog 7 #[v, .int .i64 k] w fun e w' => e = .returned (.bool true) ∧ Below w.heap.size w w' := by
  obtain ⟨A, c, rfl, hlc, hcm⟩ := hv.shape
  unfold maxLen at hcm
  have HH := hid (heavy_ok _ _ _ _ hv hq.1 hq.2)
  have HV := hid (hv.more (S' := fun _ => True) EBytes.ok fun _ _ _ => trivial)
  obtain ⟨i0, hmax⟩ := run_max0 k
  have hq1 := hq.1
  clear hv hq hi
  go_enter Try.func7, Try.ntmps7
  go_wp2_with fail
  refine HH.out.mono ?_
  clear HH
  rintro e w' ⟨⟨rfl, _⟩ | ⟨rfl, hh⟩, rfl⟩
  · go_wp2_with fail
    refine (known_any _).mono ?_
    rintro e w1 ⟨rfl, hE1⟩
    have HE := hid hE1
    clear hE1
    go_wp2
    go_ret
    exact ⟨rfl, HE.out.toBelow⟩
  have HHH := hid hh
  clear hh
  go_wp2_with fail
  refine (known_any _).mono ?_
  rintro e w1 ⟨rfl, hE1⟩
  have HE1 := hid hE1
  have HV1 := hid (HV.out.ext EBytes.ok hE1)
  clear hE1 HV
  have hsm : ∀ x ∈ ls, x.length ≤ 60000 := fun x hx => by have := lensL_mem ls x hx; have := HHH.out; omega
  have HSR := hid (scan_rows ls hsm)
  have HSC := hid (fun k => scan_cut ls k hsm)
  have hrl : (rowsL ls).length ≤ 3000 := by rw [lensL_rows]; exact HHH.out
  clear hsm
  go_wp2_with fail
  refine (rows_ok _ _ _ _ HV1.out HHH.out).mono ?_
  rintro e w2 ⟨vb, rfl, hob, hE2⟩
  obtain ⟨Ab, cb, rfl, _, hcb⟩ := hob.shape
  have HB := hid (bytes_any (own_new hob))
  have HE2 := hid (HE1.out.ext hE2)
  have HV2 := hid (HV1.out.ext EBytes.ok hE2)
  clear hob hE2 HV1 HE1
  go_wp2_with fail
  refine (scan_any _ _ _ _ HB.out (by omega)).mono ?_
  rintro e w3 ⟨vx, rfl, hx, hE3⟩
  rw [HSR.out] at hx ⊢
  obtain ⟨Ax, cx, rfl, _⟩ := hx.shape
  have HX := hid (hx.more (S' := fun _ => True) EBytes.ok fun _ _ _ => trivial)
  have HE3 := hid (HE2.out.ext hE3)
  have HV3 := hid (HV2.out.ext EBytes.ok hE3)
  have HB3 := hid (HB.out.ext EU8.ok hE3)
  clear hx hE3 HV2 HE2 HB
  generalize hrr : rowsL ls = rr at *
  have HRR := hid hrr
  clear hrr
  obtain ⟨p, hp⟩ : ∃ p, p = i0 % (rr.length + 1) := ⟨_, rfl⟩
  have hpl : p ≤ rr.length := by have := Nat.mod_lt i0 (show 0 < rr.length + 1 by omega); omega
  have hrem : ((i0 : Int) % ((rr.length : Int) + 1)) = (p : Int) := by
    rw [show ((rr.length : Int) + 1) = ((rr.length + 1 : Nat) : Int) from by omega, hp]; exact (Int.natCast_emod _ _).symm
  clear hp
  obtain ⟨j, hj, hsj, hmj⟩ := HSC.out p
  obtain ⟨hsf, hvf⟩ := front_fact (P := Try.prog) EU8.ok ty_u8 HB3.out (hi := p) (b := (p : Int)) rfl hpl
  have HVF := hid hvf
  have HSJ := hid hsj
  have HMJ := hid hmj
  have hjI : (j : Int) ≤ ls.length := by omega
  have hmI : ((rowsL (ls.take j)).length : Int) ≤ p := by omega
  obtain ⟨hsl, hvl⟩ := front_fact (P := Try.prog) EBytes.ok ty_bytes HV3.out (hi := j) (b := (j : Int)) rfl hj
  have HVL := hid hvl
  clear hvf hsj hvl hmj
  go_wp2_with fail
  rw [hrem]
  have hjl : (ls.take j).length = j := by rw [List.length_take]; omega
  have HJL := hid hjl
  clear hjl
  refine (scan_any _ _ _ _ HVF.out (by rw [List.length_take]; omega)).mono ?_
  rintro e w4 ⟨vy, rfl, hy, hE4⟩
  rw [HSJ.out] at hy ⊢
  obtain ⟨Ay, cy, rfl, _, hcy⟩ := hy.shape
  simp only [HJL.out] at hy ⊢
  have HY := hid (hy.more (S' := fun _ => True) EBytes.ok fun _ _ _ => trivial)
  have HE4 := hid (HE3.out.ext hE4)
  have HX4 := hid (HX.out.ext EBytes.ok hE4)
  have HV4 := hid (HV3.out.ext EBytes.ok hE4)
  have HVL4 := hid (HVL.out.ext EBytes.ok hE4)
  have hlt : lensL (ls.take j) ≤ 3000 := Nat.le_trans (lensL_take ls j) HHH.out
  have HLT := hid hlt
  clear hy hE4 HE3 HX HV3 HVL HVF HB3 hlt
  generalize hms : ls.take j = ms at *
  have HMS := hid hms
  clear hms
  have hmrl := hid (lensL_rows ms)
  have hmm : (rowsL ms).length ≤ 3000 := by have := HMJ.out; omega
  generalize hmn : (rowsL ms).length = mn at *
  have HMN := hid hmn
  clear hmn
  go_wp2_with fail
  refine (same12_yes _ _ _ _ _ ls HX4.out HV4.out).mono ?_
  rintro e w5 ⟨rfl, hE5⟩
  have HE5 := hid (HE4.out.ext hE5)
  have HY5 := hid (HY.out.ext EBytes.ok hE5)
  have HVL5 := hid (HVL4.out.ext EBytes.ok hE5)
  clear hE5 HE4 HX4 HV4 HY HVL4
  go_wp2_with fail
  refine (same12_yes _ _ _ _ _ ms HY5.out HVL5.out).mono ?_
  rintro e w6 ⟨rfl, hE6⟩
  have HE6 := hid (HE5.out.ext hE6)
  have HVL6 := hid (HVL5.out.ext EBytes.ok hE6)
  clear hE6 HE5 HY5 HVL5
  go_wp2_with fail
  refine (rows_ok _ _ _ _ HVL6.out HLT.out).mono ?_
  rintro e w7 ⟨vr, rfl, hr, hE7⟩
  obtain ⟨Ar, cr, rfl, _, _⟩ := hr.shape
  simp only [HMN.out]
  have HE7 := hid (HE6.out.ext hE7)
  clear hE7 HE6 hr HVL6
  go_wp2
  go_ret
  exact ⟨by first | rfl | simp, HE7.out.toBelow⟩
end Go.Proofs.Ytpebphkceipfbaa
