/- Frames: a frame one byte of which is another one is none (plain mathematics). -/
import Derived.Test.YtpebphkceipfbaaFrameL
set_option linter.unusedSimpArgs false
set_option linter.unusedVariables false
namespace Go.Proofs.Ytpebphkceipfbaa

theorem turned_length (l : List UInt8) (k : Nat) (x : UInt8) : (turned l k x).length = l.length := by simp [turned]
theorem turned_append_right (a b : List UInt8) (k : Nat) (x : UInt8) (h : a.length ≤ k) : turned (a ++ b) k x = a ++ turned b (k - a.length) x := by
  unfold turned
  apply List.ext_getElem?
  intro i
  rw [List.getElem?_modify]
  rcases Nat.lt_or_ge i a.length with hi | hi
  · rw [List.getElem?_append_left hi, List.getElem?_append_left hi]; simp [show k ≠ i from by omega]
  · rw [List.getElem?_append_right hi, List.getElem?_append_right hi, List.getElem?_modify]
    by_cases hk : k = i
    · simp [hk]
    · simp [hk, show k - a.length ≠ i - a.length from by omega]
theorem turned_append_left (a b : List UInt8) (k : Nat) (x : UInt8) (h : k < a.length) : turned (a ++ b) k x = turned a k x ++ b := by
  unfold turned
  apply List.ext_getElem?
  intro i
  rw [List.getElem?_modify]
  rcases Nat.lt_or_ge i a.length with hi | hi
  · rw [List.getElem?_append_left hi, List.getElem?_append_left (by simpa using hi), List.getElem?_modify]
  · rw [List.getElem?_append_right hi, List.getElem?_append_right (by simpa using hi)]; simp [show k ≠ i from by omega]
theorem turned_ne (l : List UInt8) (k : Nat) (x : UInt8) (hk : k < l.length) (hx : x ≠ 0) : turned l k x ≠ l := by
  intro h
  have e : (turned l k x)[k]? = l[k]? := by rw [h]
  simp [turned, List.getElem?_eq_getElem hk] at e
  apply hx
  have : l[k] ^^^ (l[k] ^^^ x) = l[k] ^^^ l[k] := by rw [e]
  rwa [← UInt8.xor_assoc, UInt8.xor_self, UInt8.zero_xor] at this
theorem bends (b : List UInt8) (k : Nat) (x : UInt8) (hb : b.length ≤ 60000) (h4 : 4 ≤ k) (hk : k < 8 + b.length) (hx : x ≠ 0) : openL (turned (frm b) k x) = none := by
  have hlen : (turned (frm b) k x).length = 8 + b.length := by rw [turned_length, frm_length]
  have e0 : turned (frm b) k x = fourL b.length ++ turned (fourL (sumOf (fourL b.length ++ b)).toNat ++ b) (k - 4) x := by
    unfold frm; rw [turned_append_right _ _ _ _ (by rw [fourL_length]; omega), fourL_length]
  have h1 : numL (turned (frm b) k x) = b.length := by rw [e0]; exact numL_four _ (by omega) _
  have h3 : (turned (frm b) k x).take 4 = fourL b.length := by rw [e0]; exact List.take_left' rfl
  have h2 : (turned (frm b) k x).drop 4 = turned (fourL (sumOf (fourL b.length ++ b)).toNat ++ b) (k - 4) x := by rw [e0]; exact List.drop_left' rfl
  have h8 : (turned (frm b) k x).drop 8 = (turned (fourL (sumOf (fourL b.length ++ b)).toNat ++ b) (k - 4) x).drop 4 := by rw [← h2, List.drop_drop]
  unfold openL
  rw [if_neg (by omega), h1, if_neg (by omega), if_pos]
  rw [h2, h3, h8]
  rcases Nat.lt_or_ge k 8 with hk8 | hk8
  · rw [turned_append_left _ _ _ _ (by rw [fourL_length]; omega)]
    rw [List.drop_left' (by rw [turned_length]; rfl), List.take_length]
    generalize hs : (sumOf (fourL b.length ++ b)).toNat = s
    have hlt : s < 4294967296 := by rw [← hs]; exact BitVec.isLt _
    intro he
    have hn := turned_ne (fourL s) (k - 4) x (by rw [fourL_length]; omega) hx
    have hl : (turned (fourL s) (k - 4) x).length = 4 := by rw [turned_length]; rfl
    apply hn
    match hm : turned (fourL s) (k - 4) x, hl with
    | [p, q, r, t], _ =>
      rw [hm] at he
      have := four_numL p q r t b
      rw [← this]
      exact congrArg fourL he
  · rw [turned_append_right _ _ _ _ (by rw [fourL_length]; omega), fourL_length, show List.drop 4 (fourL (sumOf (fourL b.length ++ b)).toNat ++ turned b (k - 4 - 4) x) = turned b (k - 4 - 4) x from List.drop_left' rfl]
    rw [List.take_of_length_le (by rw [turned_length]; omega)]
    have e : numL (fourL (sumOf (fourL b.length ++ b)).toNat ++ turned b (k - 4 - 4) x) = (sumOf (fourL b.length ++ b)).toNat := numL_four _ (BitVec.isLt _) _
    rw [e]
    have := crc_turned_ne (fourL b.length ++ b) (k - 4) x (by simp [fourL]; omega) hx
    rw [turned_append_right _ _ _ _ (by rw [fourL_length]; omega), fourL_length] at this
    exact fun he => this (BitVec.eq_of_toNat_eq he)
end Go.Proofs.Ytpebphkceipfbaa
