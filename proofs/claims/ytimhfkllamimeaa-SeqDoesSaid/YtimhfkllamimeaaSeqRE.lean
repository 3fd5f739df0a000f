/- The reference of chapter 05: Check. -/
import Derived.Test.YtimhfkllamimeaaSeqRA
import Derived.Test.YtimhfkllamimeaaSeqE
set_option linter.unusedSimpArgs false
set_option linter.unusedVariables false
namespace Go.Proofs.Ytimhfkllamimeaa
open Go.RowKit

set_option maxHeartbeats 6400000 in
theorem rcheck_any (n : Nat) (k : UInt8) (p key nn v0 v1 v2 v3 v4 s : Value) (i j : Int) (w : World) (hn : n ≤ 1000000000000) :
    Calls Try.prog 20 #[.int .i64 n, cmpV (U8 k) p key i j nn v0 v1 v2 v3 v4 s] w fun e w' => e = .returned (.int .i64 (checkL n k i j)) ∧ Ext w w' := by
  have hA : Blk (w.alloc (.cells (aC k i j p key nn v0 v1 v2 v3 v4 s) TCOMP)) w.heap.size TCOMP (aC k i j p key nn v0 v1 v2 v3 v4 s) := Blk.new _ _ _
  have hE1 : Ext w (w.alloc (.cells (aC k i j p key nn v0 v1 v2 v3 v4 s) TCOMP)) := (Keep.refl _ _).alloc _
  have HA := hid hA
  have HE1 := hid hE1
  have HN := hid hn
  clear hA hE1 hn
  rcases kind_cases k with rfl | rfl | rfl | rfl | ⟨h0, h4, h5, h6, h7⟩
  · by_cases hi0 : i < 0
    · have CK := hid (show checkL n 4 i j = 32 from by simp [checkL, knownL]; omega)
      go_enter Try.func20, Try.ntmps20
      go_wp2_with fail
      refine (rknown_any _ _ _ _ _ _ _ _ _ _ _ _ _).mono ?_
      rintro e w1 ⟨rfl, hT⟩
      have hA1 := HA.out.keep hT id
      have q0 := hA1.cell 0
      have q3 := hA1.cell 3
      have q4 := hA1.cell 4
      simp at q0 q3 q4
      have HT := hid (HE1.out.ext hT)
      clear hA1 hT
      go_wp2
      go_ret
      exact ⟨congrArg (fun z => Ending.returned (.int .i64 z)) (Eq.symm CK.out), HT.out⟩
    rcases tri i (n : Int) with ⟨t1, t2, t4⟩ | t1 | ⟨t1, t2, t4, t3⟩
    · have CK := hid (show checkL n 4 i j = 0 from by simp [checkL, knownL]; omega)
      go_enter Try.func20, Try.ntmps20
      go_wp2_with fail
      refine (rknown_any _ _ _ _ _ _ _ _ _ _ _ _ _).mono ?_
      rintro e w1 ⟨rfl, hT⟩
      have hA1 := HA.out.keep hT id
      have q0 := hA1.cell 0
      have q3 := hA1.cell 3
      have q4 := hA1.cell 4
      simp at q0 q3 q4
      have HT := hid (HE1.out.ext hT)
      clear hA1 hT
      go_wp2
      go_ret
      exact ⟨congrArg (fun z => Ending.returned (.int .i64 z)) (Eq.symm CK.out), HT.out⟩
    · have CK := hid (show checkL n 4 i j = 0 from by simp [checkL, knownL]; omega)
      subst t1
      have hnn : ((n : Int) == n) = true := by simp
      go_enter Try.func20, Try.ntmps20
      go_wp2_with fail
      refine (rknown_any _ _ _ _ _ _ _ _ _ _ _ _ _).mono ?_
      rintro e w1 ⟨rfl, hT⟩
      have hA1 := HA.out.keep hT id
      have q0 := hA1.cell 0
      have q3 := hA1.cell 3
      have q4 := hA1.cell 4
      simp at q0 q3 q4
      have HT := hid (HE1.out.ext hT)
      clear hA1 hT
      go_wp2
      go_ret
      exact ⟨congrArg (fun z => Ending.returned (.int .i64 z)) (Eq.symm CK.out), HT.out⟩
    · have CK := hid (show checkL n 4 i j = 32 from by simp [checkL, knownL]; omega)
      go_enter Try.func20, Try.ntmps20
      go_wp2_with fail
      refine (rknown_any _ _ _ _ _ _ _ _ _ _ _ _ _).mono ?_
      rintro e w1 ⟨rfl, hT⟩
      have hA1 := HA.out.keep hT id
      have q0 := hA1.cell 0
      have q3 := hA1.cell 3
      have q4 := hA1.cell 4
      simp at q0 q3 q4
      have HT := hid (HE1.out.ext hT)
      clear hA1 hT
      go_wp2
      go_ret
      exact ⟨congrArg (fun z => Ending.returned (.int .i64 z)) (Eq.symm CK.out), HT.out⟩
  · by_cases hi0 : i < 0
    · have CK := hid (show checkL n 5 i j = 32 from by simp [checkL, knownL]; omega)
      go_enter Try.func20, Try.ntmps20
      go_wp2_with fail
      refine (rknown_any _ _ _ _ _ _ _ _ _ _ _ _ _).mono ?_
      rintro e w1 ⟨rfl, hT⟩
      have hA1 := HA.out.keep hT id
      have q0 := hA1.cell 0
      have q3 := hA1.cell 3
      have q4 := hA1.cell 4
      simp at q0 q3 q4
      have HT := hid (HE1.out.ext hT)
      clear hA1 hT
      go_wp2
      go_ret
      exact ⟨congrArg (fun z => Ending.returned (.int .i64 z)) (Eq.symm CK.out), HT.out⟩
    rcases tri i (n : Int) with ⟨t1, t2, t4⟩ | t1 | ⟨t1, t2, t4, t3⟩
    · have CK := hid (show checkL n 5 i j = 0 from by simp [checkL, knownL]; omega)
      go_enter Try.func20, Try.ntmps20
      go_wp2_with fail
      refine (rknown_any _ _ _ _ _ _ _ _ _ _ _ _ _).mono ?_
      rintro e w1 ⟨rfl, hT⟩
      have hA1 := HA.out.keep hT id
      have q0 := hA1.cell 0
      have q3 := hA1.cell 3
      have q4 := hA1.cell 4
      simp at q0 q3 q4
      have HT := hid (HE1.out.ext hT)
      clear hA1 hT
      go_wp2
      go_ret
      exact ⟨congrArg (fun z => Ending.returned (.int .i64 z)) (Eq.symm CK.out), HT.out⟩
    · have CK := hid (show checkL n 5 i j = 32 from by simp [checkL, knownL]; omega)
      subst t1
      have hnn : ((n : Int) == n) = true := by simp
      go_enter Try.func20, Try.ntmps20
      go_wp2_with fail
      refine (rknown_any _ _ _ _ _ _ _ _ _ _ _ _ _).mono ?_
      rintro e w1 ⟨rfl, hT⟩
      have hA1 := HA.out.keep hT id
      have q0 := hA1.cell 0
      have q3 := hA1.cell 3
      have q4 := hA1.cell 4
      simp at q0 q3 q4
      have HT := hid (HE1.out.ext hT)
      clear hA1 hT
      go_wp2
      go_ret
      exact ⟨congrArg (fun z => Ending.returned (.int .i64 z)) (Eq.symm CK.out), HT.out⟩
    · have CK := hid (show checkL n 5 i j = 32 from by simp [checkL, knownL]; omega)
      go_enter Try.func20, Try.ntmps20
      go_wp2_with fail
      refine (rknown_any _ _ _ _ _ _ _ _ _ _ _ _ _).mono ?_
      rintro e w1 ⟨rfl, hT⟩
      have hA1 := HA.out.keep hT id
      have q0 := hA1.cell 0
      have q3 := hA1.cell 3
      have q4 := hA1.cell 4
      simp at q0 q3 q4
      have HT := hid (HE1.out.ext hT)
      clear hA1 hT
      go_wp2
      go_ret
      exact ⟨congrArg (fun z => Ending.returned (.int .i64 z)) (Eq.symm CK.out), HT.out⟩
  · by_cases hi0 : i < 0
    · have CK := hid (show checkL n 6 i j = 32 from by simp [checkL, knownL]; omega)
      go_enter Try.func20, Try.ntmps20
      go_wp2_with fail
      refine (rknown_any _ _ _ _ _ _ _ _ _ _ _ _ _).mono ?_
      rintro e w1 ⟨rfl, hT⟩
      have hA1 := HA.out.keep hT id
      have q0 := hA1.cell 0
      have q3 := hA1.cell 3
      have q4 := hA1.cell 4
      simp at q0 q3 q4
      have HT := hid (HE1.out.ext hT)
      clear hA1 hT
      go_wp2
      go_ret
      exact ⟨congrArg (fun z => Ending.returned (.int .i64 z)) (Eq.symm CK.out), HT.out⟩
    rcases tri i (n : Int) with ⟨t1, t2, t4⟩ | t1 | ⟨t1, t2, t4, t3⟩
    · have CK := hid (show checkL n 6 i j = 0 from by simp [checkL, knownL]; omega)
      go_enter Try.func20, Try.ntmps20
      go_wp2_with fail
      refine (rknown_any _ _ _ _ _ _ _ _ _ _ _ _ _).mono ?_
      rintro e w1 ⟨rfl, hT⟩
      have hA1 := HA.out.keep hT id
      have q0 := hA1.cell 0
      have q3 := hA1.cell 3
      have q4 := hA1.cell 4
      simp at q0 q3 q4
      have HT := hid (HE1.out.ext hT)
      clear hA1 hT
      go_wp2
      go_ret
      exact ⟨congrArg (fun z => Ending.returned (.int .i64 z)) (Eq.symm CK.out), HT.out⟩
    · have CK := hid (show checkL n 6 i j = 32 from by simp [checkL, knownL]; omega)
      subst t1
      have hnn : ((n : Int) == n) = true := by simp
      go_enter Try.func20, Try.ntmps20
      go_wp2_with fail
      refine (rknown_any _ _ _ _ _ _ _ _ _ _ _ _ _).mono ?_
      rintro e w1 ⟨rfl, hT⟩
      have hA1 := HA.out.keep hT id
      have q0 := hA1.cell 0
      have q3 := hA1.cell 3
      have q4 := hA1.cell 4
      simp at q0 q3 q4
      have HT := hid (HE1.out.ext hT)
      clear hA1 hT
      go_wp2
      go_ret
      exact ⟨congrArg (fun z => Ending.returned (.int .i64 z)) (Eq.symm CK.out), HT.out⟩
    · have CK := hid (show checkL n 6 i j = 32 from by simp [checkL, knownL]; omega)
      go_enter Try.func20, Try.ntmps20
      go_wp2_with fail
      refine (rknown_any _ _ _ _ _ _ _ _ _ _ _ _ _).mono ?_
      rintro e w1 ⟨rfl, hT⟩
      have hA1 := HA.out.keep hT id
      have q0 := hA1.cell 0
      have q3 := hA1.cell 3
      have q4 := hA1.cell 4
      simp at q0 q3 q4
      have HT := hid (HE1.out.ext hT)
      clear hA1 hT
      go_wp2
      go_ret
      exact ⟨congrArg (fun z => Ending.returned (.int .i64 z)) (Eq.symm CK.out), HT.out⟩
  · by_cases hi0 : i < 0
    · have CK := hid (show checkL n 7 i j = 32 from by simp [checkL, knownL]; omega)
      go_enter Try.func20, Try.ntmps20
      go_wp2_with fail
      refine (rknown_any _ _ _ _ _ _ _ _ _ _ _ _ _).mono ?_
      rintro e w1 ⟨rfl, hT⟩
      have hA1 := HA.out.keep hT id
      have q0 := hA1.cell 0
      have q3 := hA1.cell 3
      have q4 := hA1.cell 4
      simp at q0 q3 q4
      have HT := hid (HE1.out.ext hT)
      clear hA1 hT
      go_wp2
      go_ret
      exact ⟨congrArg (fun z => Ending.returned (.int .i64 z)) (Eq.symm CK.out), HT.out⟩
    rcases tri i (n : Int) with ⟨t1, t2, t4⟩ | t1 | ⟨t1, t2, t4, t3⟩
    · by_cases hj0 : j < 0
      · have CK := hid (show checkL n 7 i j = 32 from by simp [checkL, knownL]; omega)
        go_enter Try.func20, Try.ntmps20
        go_wp2_with fail
        refine (rknown_any _ _ _ _ _ _ _ _ _ _ _ _ _).mono ?_
        rintro e w1 ⟨rfl, hT⟩
        have hA1 := HA.out.keep hT id
        have q0 := hA1.cell 0
        have q3 := hA1.cell 3
        have q4 := hA1.cell 4
        simp at q0 q3 q4
        have HT := hid (HE1.out.ext hT)
        clear hA1 hT
        go_wp2
        go_ret
        exact ⟨congrArg (fun z => Ending.returned (.int .i64 z)) (Eq.symm CK.out), HT.out⟩
      by_cases hjn : j ≥ (n : Int)
      · have CK := hid (show checkL n 7 i j = 32 from by simp [checkL, knownL]; omega)
        go_enter Try.func20, Try.ntmps20
        go_wp2_with fail
        refine (rknown_any _ _ _ _ _ _ _ _ _ _ _ _ _).mono ?_
        rintro e w1 ⟨rfl, hT⟩
        have hA1 := HA.out.keep hT id
        have q0 := hA1.cell 0
        have q3 := hA1.cell 3
        have q4 := hA1.cell 4
        simp at q0 q3 q4
        have HT := hid (HE1.out.ext hT)
        clear hA1 hT
        go_wp2
        go_ret
        exact ⟨congrArg (fun z => Ending.returned (.int .i64 z)) (Eq.symm CK.out), HT.out⟩
      · have CK := hid (show checkL n 7 i j = 0 from by simp [checkL, knownL]; omega)
        go_enter Try.func20, Try.ntmps20
        go_wp2_with fail
        refine (rknown_any _ _ _ _ _ _ _ _ _ _ _ _ _).mono ?_
        rintro e w1 ⟨rfl, hT⟩
        have hA1 := HA.out.keep hT id
        have q0 := hA1.cell 0
        have q3 := hA1.cell 3
        have q4 := hA1.cell 4
        simp at q0 q3 q4
        have HT := hid (HE1.out.ext hT)
        clear hA1 hT
        go_wp2
        go_ret
        exact ⟨congrArg (fun z => Ending.returned (.int .i64 z)) (Eq.symm CK.out), HT.out⟩
    · have CK := hid (show checkL n 7 i j = 32 from by simp [checkL, knownL]; omega)
      subst t1
      have hnn : ((n : Int) == n) = true := by simp
      go_enter Try.func20, Try.ntmps20
      go_wp2_with fail
      refine (rknown_any _ _ _ _ _ _ _ _ _ _ _ _ _).mono ?_
      rintro e w1 ⟨rfl, hT⟩
      have hA1 := HA.out.keep hT id
      have q0 := hA1.cell 0
      have q3 := hA1.cell 3
      have q4 := hA1.cell 4
      simp at q0 q3 q4
      have HT := hid (HE1.out.ext hT)
      clear hA1 hT
      go_wp2
      go_ret
      exact ⟨congrArg (fun z => Ending.returned (.int .i64 z)) (Eq.symm CK.out), HT.out⟩
    · have CK := hid (show checkL n 7 i j = 32 from by simp [checkL, knownL]; omega)
      go_enter Try.func20, Try.ntmps20
      go_wp2_with fail
      refine (rknown_any _ _ _ _ _ _ _ _ _ _ _ _ _).mono ?_
      rintro e w1 ⟨rfl, hT⟩
      have hA1 := HA.out.keep hT id
      have q0 := hA1.cell 0
      have q3 := hA1.cell 3
      have q4 := hA1.cell 4
      simp at q0 q3 q4
      have HT := hid (HE1.out.ext hT)
      clear hA1 hT
      go_wp2
      go_ret
      exact ⟨congrArg (fun z => Ending.returned (.int .i64 z)) (Eq.symm CK.out), HT.out⟩
  · have CK := hid (show checkL n k i j = 31 from by simp [checkL, h0])
    have HK := hid h0
    go_enter Try.func20, Try.ntmps20
    go_wp2_with fail
    refine (rknown_any _ _ _ _ _ _ _ _ _ _ _ _ _).mono ?_
    rintro e w1 ⟨rfl, hT⟩
    rw [HK.out]
    have HT := hid (HE1.out.ext hT)
    clear hT
    go_wp2
    go_ret
    exact ⟨congrArg (fun z => Ending.returned (.int .i64 z)) (Eq.symm CK.out), HT.out⟩
end Go.Proofs.Ytimhfkllamimeaa
