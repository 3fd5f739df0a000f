import Derived.Test.YtpebphkceipfbaaCrc
set_option linter.unusedSimpArgs false
set_option linter.unusedVariables false
namespace Go.Proofs.Ytpebphkceipfbaa
theorem crcBit_zero (x : BitVec 32) (h : crcBit x = 0#32) : x = 0#32 := by
  rw [crcBit_eq] at h
  cases hx : x[0]
  · rw [hx] at h
    simp at h
    apply BitVec.eq_of_getLsbD_eq
    intro i hi
    cases i with
    | zero => simpa using hx
    | succ i =>
      have := congrArg (fun z : BitVec 32 => z.getLsbD i) h
      simp [BitVec.getLsbD_ushiftRight] at this
      simpa [Nat.add_comm] using this
  · rw [hx] at h
    simp at h
    have := congrArg (fun z : BitVec 32 => z.getLsbD 31) h
    simp [BitVec.getLsbD_ushiftRight] at this
theorem crcBits_zero (n : Nat) (x : BitVec 32) (h : crcBits n x = 0#32) : x = 0#32 := by
  induction n with
  | zero => exact h
  | succ n ih => exact ih (crcBit_zero _ h)
theorem crcBits_of_zero (n : Nat) : crcBits n 0#32 = 0#32 := by
  induction n with
  | zero => rfl
  | succ n ih => simp only [crcBits, ih]; rfl
theorem xor_eq_zero {n : Nat} {x y : BitVec n} (h : x ^^^ y = 0#n) : x = y := by simpa using h
theorem crcStep_xor (s t : BitVec 32) (x y : BitVec 8) : crcStep s x ^^^ crcStep t y = crcStep (s ^^^ t) (x ^^^ y) := by
  unfold crcStep
  rw [← crcBits_xor]
  congr 1
  rw [show (x ^^^ y).zeroExtend 32 = x.zeroExtend 32 ^^^ y.zeroExtend 32 from by simp [BitVec.zeroExtend, BitVec.setWidth_xor]]
  ac_rfl
theorem crcAll_xor : ∀ (a c : List (BitVec 8)) (s t : BitVec 32), a.length = c.length → crcAll s a ^^^ crcAll t c = crcAll (s ^^^ t) (List.zipWith (· ^^^ ·) a c)
  | [], [], _, _, _ => rfl
  | x :: a, y :: c, s, t, h => by
    have := crcAll_xor a c (crcStep s x) (crcStep t y) (by simpa using h)
    simpa [crcAll, crcStep_xor] using this
  | [], _ :: _, _, _, h => by simp at h
  | _ :: _, [], _, _, h => by simp at h
theorem crcStep_inj (s : BitVec 32) (x y : BitVec 8) (h : crcStep s x = crcStep s y) : x = y := by
  have h1 : crcStep s x ^^^ crcStep s y = 0#32 := by rw [h]; simp
  rw [crcStep_xor] at h1
  have h2 := crcBits_zero _ _ h1
  simp [BitVec.zeroExtend] at h2
  apply xor_eq_zero
  have := congrArg (fun z : BitVec 32 => z.setWidth 8) h2
  simpa using this
theorem crcStep_zero (s : BitVec 32) (h : crcStep s 0#8 = 0#32) : s = 0#32 := by
  have := crcBits_zero _ _ h
  simpa [BitVec.zeroExtend] using this
theorem crcAll_zeros : ∀ (n : Nat) (s : BitVec 32), crcAll s (List.replicate n 0#8) = 0#32 → s = 0#32
  | 0, _, h => h
  | n + 1, s, h => crcStep_zero s (crcAll_zeros n _ (by simpa [crcAll, List.replicate_succ] using h))
theorem crcAll_zeros_of (n : Nat) : crcAll 0#32 (List.replicate n 0#8) = 0#32 := by
  induction n with
  | zero => rfl
  | succ n ih => simpa [crcAll, List.replicate_succ, crcStep, crcBits_of_zero, BitVec.zeroExtend] using ih
/-- Bytes of which one is turned. -/
def turned (l : List UInt8) (k : Nat) (x : UInt8) : List UInt8 := l.modify k (· ^^^ x)
theorem zip_turned : ∀ (l : List UInt8) (k : Nat) (x : UInt8), k < l.length →
    List.zipWith (· ^^^ ·) (l.map (·.toBitVec)) ((turned l k x).map (·.toBitVec)) = List.replicate k 0#8 ++ x.toBitVec :: List.replicate (l.length - k - 1) 0#8
  | [], _, _, h => by simp at h
  | y :: l, 0, x, _ => by
    have : ∀ (m : List UInt8), List.zipWith (· ^^^ ·) (m.map (·.toBitVec)) (m.map (·.toBitVec)) = List.replicate m.length 0#8 := by
      intro m; induction m with
      | nil => rfl
      | cons z m ih => simp only [List.map_cons, List.zipWith_cons_cons, ih, List.length_cons, List.replicate_succ]; simp
    simp only [turned, List.modify_zero_cons, List.map_cons, List.zipWith_cons_cons, this, UInt8.toBitVec_xor]
    simp [← BitVec.xor_assoc]
  | y :: l, k + 1, x, h => by
    have := zip_turned l k x (by simpa using h)
    simp only [turned] at this ⊢
    simp only [List.modify_succ_cons, List.map_cons, List.zipWith_cons_cons, this, List.length_cons, List.replicate_succ, List.cons_append]
    simp
theorem crc_turned (l : List UInt8) (k : Nat) (x : UInt8) (hk : k < l.length) :
    crcOf l ^^^ crcOf (turned l k x) = crcAll 0#32 (List.replicate k 0#8 ++ x.toBitVec :: List.replicate (l.length - k - 1) 0#8) := by
  unfold crcOf
  rw [crcAll_xor _ _ _ _ (by simp [turned]), zip_turned l k x hk]
  simp
theorem not_xor_not (a b : BitVec 32) : (~~~ a) ^^^ (~~~ b) = a ^^^ b := by
  apply BitVec.eq_of_getLsbD_eq; intro i hi; simp [hi]
theorem crc_turned_ne (l : List UInt8) (k : Nat) (x : UInt8) (hk : k < l.length) (hx : x ≠ 0) : sumOf l ≠ sumOf (turned l k x) := by
  intro h
  have h1 : crcOf l ^^^ crcOf (turned l k x) = 0#32 := by
    unfold sumOf at h
    rw [← not_xor_not, h]; simp
  rw [crc_turned l k x hk] at h1
  have h2 : crcAll (crcAll 0#32 (List.replicate k 0#8)) (x.toBitVec :: List.replicate (l.length - k - 1) 0#8) = 0#32 := by
    simpa [crcAll, List.foldl_append] using h1
  rw [crcAll_zeros_of] at h2
  have h3 := crcAll_zeros _ _ (show crcAll (crcStep 0#32 x.toBitVec) _ = 0#32 from h2)
  have h4 : crcStep 0#32 x.toBitVec = crcStep 0#32 0#8 := by rw [h3]; simp [crcStep, crcBits_of_zero, BitVec.zeroExtend]
  have h5 := crcStep_inj _ _ _ h4
  exact hx (UInt8.toBitVec_inj.1 h5)
theorem crc_turned_two (l m : List UInt8) (k : Nat) (x : UInt8) (hk : k < l.length) (hm : m.length = l.length) :
    sumOf l ^^^ sumOf (turned l k x) = sumOf m ^^^ sumOf (turned m k x) := by
  unfold sumOf
  rw [not_xor_not, not_xor_not, crc_turned l k x hk, crc_turned m k x (by omega), hm]
theorem crc_ends (l : List UInt8) (x y : UInt8) : (sumOf (l ++ [x]) = sumOf (l ++ [y])) ↔ x = y := by
  constructor
  · intro h
    have h1 : crcOf (l ++ [x]) = crcOf (l ++ [y]) := by
      have : ~~~ ~~~ crcOf (l ++ [x]) = ~~~ ~~~ crcOf (l ++ [y]) := by
        unfold sumOf at h
        rw [h]
      simpa using this
    rw [crcOf_snoc, crcOf_snoc] at h1
    exact UInt8.toBitVec_inj.1 (crcStep_inj _ _ _ h1)
  · rintro rfl; rfl
end Go.Proofs.Ytpebphkceipfbaa
