/- The sum CRC-32 as plain mathematics; no program is imported. -/
set_option linter.unusedSimpArgs false
set_option linter.unusedVariables false
namespace Go.Proofs.Ytpebphkceipfbaa
def crcBit (x : BitVec 32) : BitVec 32 := (x >>> 1) ^^^ (0xedb88320#32 * (x &&& 1#32))
def crcBits : Nat → BitVec 32 → BitVec 32
  | 0, x => x
  | n + 1, x => crcBit (crcBits n x)
theorem and_one (x : BitVec 32) : x &&& 1#32 = if x[0] then 1#32 else 0#32 := by
  apply BitVec.eq_of_getLsbD_eq
  intro i hi
  cases h : x[0] <;> simp [BitVec.getLsbD_one, BitVec.getLsbD_and]
  · intro h1 h0; subst h0; rw [BitVec.getLsbD_eq_getElem (by omega)] at h1; rw [h] at h1; cases h1
  · intro h0; subst h0; rw [BitVec.getLsbD_eq_getElem (by omega)]; exact h
theorem crcBit_eq (x : BitVec 32) : crcBit x = (x >>> 1) ^^^ (if x[0] then 0xedb88320#32 else 0#32) := by
  unfold crcBit
  rw [and_one]
  cases h : x[0] <;> simp
theorem crcBit_xor (x y : BitVec 32) : crcBit (x ^^^ y) = crcBit x ^^^ crcBit y := by
  simp only [crcBit_eq, BitVec.getElem_xor, BitVec.ushiftRight_xor_distrib]
  have e : ∀ a b c d : BitVec 32, a ^^^ b ^^^ (c ^^^ d) = (a ^^^ c) ^^^ (b ^^^ d) := by intros; ac_rfl
  rw [e]
  congr 1
  cases hx : x[0] <;> cases hy : y[0] <;> simp
theorem crcBits_xor (n : Nat) (x y : BitVec 32) : crcBits n (x ^^^ y) = crcBits n x ^^^ crcBits n y := by
  induction n with
  | zero => rfl
  | succ n ih => simp only [crcBits, ih, crcBit_xor]
theorem crcBit_even (x : BitVec 32) (h : x[0] = false) : crcBit x = x >>> 1 := by
  rw [crcBit_eq, h]; simp
theorem crcBits_low (n : Nat) (x : BitVec 32) (h : ∀ i, i < n → x.getLsbD i = false) : crcBits n x = x >>> n := by
  induction n with
  | zero => simp [crcBits]
  | succ n ih =>
    simp only [crcBits]
    rw [ih (fun i hi => h i (by omega)), crcBit_even]
    · rw [← BitVec.shiftRight_add]
    · simpa using h n (by omega)
def crcTab (i : Nat) : BitVec 32 := crcBits 8 (BitVec.ofNat 32 i)
def crcStep (c : BitVec 32) (b : BitVec 8) : BitVec 32 := crcBits 8 (c ^^^ b.zeroExtend 32)
theorem crcStep_eq (c : BitVec 32) (b : BitVec 8) : crcTab (c.setWidth 8 ^^^ b).toNat ^^^ (c >>> 8) = crcStep c b := by
  unfold crcTab crcStep
  have e : c ^^^ b.zeroExtend 32 = BitVec.ofNat 32 (c.setWidth 8 ^^^ b).toNat ^^^ ((c >>> 8) <<< 8) := by
    apply BitVec.eq_of_getLsbD_eq
    intro i hi
    have e2 : (BitVec.ofNat 32 (c.setWidth 8 ^^^ b).toNat).getLsbD i = (c.setWidth 8 ^^^ b).getLsbD i := by
      simp only [BitVec.getLsbD_ofNat, hi, decide_true, Bool.true_and]; rfl
    simp only [BitVec.getLsbD_xor, e2, BitVec.getLsbD_setWidth, BitVec.getLsbD_shiftLeft, BitVec.getLsbD_ushiftRight, BitVec.zeroExtend]
    by_cases h8 : i < 8
    · simp [h8, hi]
    · simp only [h8, hi]; rw [show 8 + (i - 8) = i from by omega]; simp; exact Bool.xor_comm _ _
  rw [e, crcBits_xor, crcBits_low 8 ((c >>> 8) <<< 8)]
  · congr 1
    apply BitVec.eq_of_getLsbD_eq
    intro i hi
    simp only [BitVec.getLsbD_shiftLeft, BitVec.getLsbD_ushiftRight]
    by_cases h8 : i < 24
    · rw [show 8 + (8 + i - 8) = 8 + i from by omega]; simp; intros; omega
    · simp; rw [BitVec.getLsbD_of_ge _ _ (by omega)]; simp
  · intro i hi; simp [hi]
def crcAll (c : BitVec 32) (l : List (BitVec 8)) : BitVec 32 := l.foldl crcStep c
/-- The sum's number behind these bytes, not yet turned. -/
def crcOf (l : List UInt8) : BitVec 32 := crcAll 0xffffffff#32 (l.map (·.toBitVec))
/-- The sum of these bytes. -/
def sumOf (l : List UInt8) : BitVec 32 := ~~~ crcOf l
theorem crcOf_snoc (l : List UInt8) (x : UInt8) : crcOf (l ++ [x]) = crcStep (crcOf l) x.toBitVec := by
  simp [crcOf, crcAll, List.foldl_append]
end Go.Proofs.Ytpebphkceipfbaa
