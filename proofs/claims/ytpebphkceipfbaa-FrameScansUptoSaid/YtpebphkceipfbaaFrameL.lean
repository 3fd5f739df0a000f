/- Frames as plain mathematics; no program. -/
import Derived.Test.YtpebphkceipfbaaCrcLaw
set_option linter.unusedSimpArgs false
set_option linter.unusedVariables false
namespace Go.Proofs.Ytpebphkceipfbaa

def fourL (n : Nat) : List UInt8 := [UInt8.ofNat (n / 16777216), UInt8.ofNat (n / 65536), UInt8.ofNat (n / 256), UInt8.ofNat n]
def numK (l : List UInt8) : Nat := l.foldl (fun n x => n * 256 + x.toNat) 0
def numL (l : List UInt8) : Nat := numK (l.take 4)

theorem fourL_length (n : Nat) : (fourL n).length = 4 := rfl
theorem numK_snoc (l : List UInt8) (x : UInt8) : numK (l ++ [x]) = numK l * 256 + x.toNat := by simp [numK, List.foldl_append]
theorem numK_lt : ∀ (n : Nat) (l : List UInt8), l.length = n → numK l < 256 ^ n
  | 0, l, h => by have := List.eq_nil_of_length_eq_zero h; subst this; simp [numK]
  | n + 1, l, h => by
    have e : l = l.take n ++ [l[n]] := by rw [← List.take_succ_eq_append_getElem]; exact (List.take_of_length_le (by omega)).symm
    have hl : (l.take n).length = n := by simp; omega
    have := numK_lt n _ hl
    rw [e, numK_snoc]
    have := (l[n]).toNat_lt
    rw [Nat.pow_succ]; omega
theorem numL_four (n : Nat) (h : n < 4294967296) (l : List UInt8) : numL (fourL n ++ l) = n := by
  show numK [UInt8.ofNat (n / 16777216), UInt8.ofNat (n / 65536), UInt8.ofNat (n / 256), UInt8.ofNat n] = n
  simp [numK]
  omega
theorem numL_lt (l : List UInt8) (h : 4 ≤ l.length) : numL l < 4294967296 := by
  have := numK_lt 4 (l.take 4) (by simp; omega)
  simpa [numL] using this
theorem four_numL (a b c d : UInt8) (l : List UInt8) : fourL (numL (a :: b :: c :: d :: l)) = [a, b, c, d] := by
  have ha := a.toNat_lt
  have hb := b.toNat_lt
  have hc := c.toNat_lt
  have hd := d.toNat_lt
  show fourL (numK [a, b, c, d]) = _
  have e : numK [a, b, c, d] = ((a.toNat * 256 + b.toNat) * 256 + c.toNat) * 256 + d.toNat := by simp [numK]
  rw [e]
  unfold fourL
  simp only [List.cons.injEq, and_true]
  refine ⟨?_, ?_, ?_, ?_⟩ <;> (apply UInt8.toNat.inj; simp; try omega)
theorem numL_eq (l : List UInt8) (h : 4 ≤ l.length) : numL l = ((l[0].toNat * 256 + l[1].toNat) * 256 + l[2].toNat) * 256 + l[3].toNat := by
  match l, h with
  | a :: b :: c :: d :: r, _ => simp [numL, numK]

/-- A frame's bytes. -/
def frm (b : List UInt8) : List UInt8 := fourL b.length ++ (fourL (sumOf (fourL b.length ++ b)).toNat ++ b)
theorem frm_length (b : List UInt8) : (frm b).length = 8 + b.length := by simp [frm, fourL]; omega
/-- What some begin with. -/
def openL (b : List UInt8) : Option (List UInt8) :=
  if b.length < 8 then none
  else if min 60000 (b.length - 8) < numL b then none
  else if numL (b.drop 4) ≠ (sumOf (b.take 4 ++ (b.drop 8).take (numL b))).toNat then none
  else some ((b.drop 8).take (numL b))
theorem openL_length {b x : List UInt8} (h : openL b = some x) : 8 + x.length ≤ b.length ∧ x.length = numL b ∧ x.length ≤ 60000 := by
  unfold openL at h
  split at h
  · cases h
  · split at h
    · cases h
    · split at h
      · cases h
      · injection h with h
        subst h
        simp only [List.length_take, List.length_drop]
        omega
theorem openL_frm (b r : List UInt8) (h : b.length ≤ 60000) : openL (frm b ++ r) = some b := by
  have h1 : numL (frm b ++ r) = b.length := by
    unfold frm; rw [List.append_assoc]; exact numL_four _ (by omega) _
  have h2 : (frm b ++ r).drop 4 = fourL (sumOf (fourL b.length ++ b)).toNat ++ (b ++ r) := by simp [frm, fourL]
  have h3 : (frm b ++ r).take 4 = fourL b.length := by simp [frm, fourL]
  have h4 : (frm b ++ r).drop 8 = b ++ r := by simp [frm, fourL]
  unfold openL
  rw [if_neg (by rw [List.length_append, frm_length]; omega), h1, if_neg (by rw [List.length_append, frm_length]; omega), h2, h3, h4, numL_four _ (BitVec.isLt _), List.take_left, if_neg (by simp)]
/-- All frames, one behind the other; where the last one ends. -/
def scanL (b : List UInt8) : List (List UInt8) × Nat :=
  match h : openL b with
  | none => ([], 0)
  | some x => let r := scanL (b.drop (8 + x.length)); (x :: r.1, 8 + x.length + r.2)
termination_by b.length
decreasing_by have := openL_length h; simp; omega
theorem scanL_none {b : List UInt8} (h : openL b = none) : scanL b = ([], 0) := by
  rw [scanL]; split
  · rfl
  · rename_i x hx; rw [h] at hx; cases hx
theorem scanL_some {b x : List UInt8} (h : openL b = some x) : scanL b = (x :: (scanL (b.drop (8 + x.length))).1, 8 + x.length + (scanL (b.drop (8 + x.length))).2) := by
  rw [scanL]; split
  · rename_i hx; rw [h] at hx; cases hx
  · rename_i y hy; rw [h] at hy; injection hy with hy; subst hy; rfl
end Go.Proofs.Ytpebphkceipfbaa
