/- MeetB, TurnP: laid together. -/
import Derived.Test.YtioplgfopillnaaDoorMeB37
import Derived.Test.YtioplgfopillnaaDoorMeB33
import Derived.Test.YtioplgfopillnaaDoorMeB23
import Derived.Test.YtioplgfopillnaaDoorMeB22
set_option linter.unusedSimpArgs false
set_option linter.unusedVariables false
set_option maxHeartbeats 25600000
set_option maxRecDepth 20000
namespace Go.Proofs.YtioplgfopillnaaDoor
open Go.RowKit
abbrev bys (s : ByteArray) : List UInt8 := s.data.toList
def insT {α : Type} (L : List α) (i : Nat) (t : List α) : List α := L.take i ++ (t ++ L.drop i)
def delT {α : Type} (L : List α) (i m : Nat) : List α := L.take i ++ L.drop (i + m)
section
variable {α : Type} {L t u : List α} {i j m k : Nat}
theorem insT_len (h : i ≤ L.length) : (insT L i t).length = L.length + t.length := by unfold insT; rw [List.length_append, List.length_append, List.length_take, List.length_drop]; omega
theorem delT_len (h : i + m ≤ L.length) : (delT L i m).length = L.length - m := by unfold delT; rw [List.length_append, List.length_take, List.length_drop]; omega
theorem insT_get (h : i ≤ L.length) (x : Nat) : (insT L i t)[x]? = if x < i then L[x]? else if x < i + t.length then t[x - i]? else L[x - t.length]? := by
 have h1 : (L.take i).length = i := by rw [List.length_take]; omega
 unfold insT
 by_cases c : x < i
 ·rw [if_pos c, List.getElem?_append_left (by omega), List.getElem?_take_of_lt c]
 ·rw [if_neg c, List.getElem?_append_right (by omega), h1]
  by_cases e : x < i + t.length
  ·rw [if_pos e, List.getElem?_append_left (by omega)]
  ·rw [if_neg e, List.getElem?_append_right (by omega), List.getElem?_drop]
   congr 1; omega
theorem delT_get (h : i ≤ L.length) (x : Nat) : (delT L i m)[x]? = if x < i then L[x]? else L[x + m]? := by
 have h1 : (L.take i).length = i := by rw [List.length_take]; omega
 unfold delT
 by_cases c : x < i
 ·rw [if_pos c, List.getElem?_append_left (by omega), List.getElem?_take_of_lt c]
 ·rw [if_neg c, List.getElem?_append_right (by omega), h1, List.getElem?_drop]
  congr 1; omega
theorem delT_zero : delT L i 0 = L := by unfold delT; rw [Nat.add_zero, List.take_append_drop]
theorem ins_ins (h1 : i ≤ j) (h2 : j ≤ L.length) : insT (insT L i t) (j + t.length) u = insT (insT L j u) i t := by
 refine List.ext_getElem? fun x => ?_
 have a1 := fun x => insT_get (L := L) (i := i) (t := t) (by omega) x
 have a2 := fun x => insT_get (L := L) (i := j) (t := u) (by omega) x
 have b1 := insT_len (L := L) (i := i) (t := t) (by omega)
 have b2 := insT_len (L := L) (i := j) (t := u) (by omega)
 rw [insT_get (L := insT L i t) (by omega), insT_get (L := insT L j u) (by omega)]
 simp only [a1, a2]
 (repeat' split) <;> first | omega | rfl | (congr 1; omega)
theorem ins_del_lo (h1 : i ≤ j) (h2 : j + m ≤ L.length) : delT (insT L i t) (j + t.length) m = insT (delT L j m) i t := by
 refine List.ext_getElem? fun x => ?_
 have a1 := fun x => insT_get (L := L) (i := i) (t := t) (by omega) x
 have a2 := fun x => delT_get (L := L) (i := j) (m := m) (by omega) x
 have b1 := insT_len (L := L) (i := i) (t := t) (by omega)
 have b2 := delT_len (L := L) (i := j) (m := m) (by omega)
 rw [delT_get (L := insT L i t) (by omega), insT_get (L := delT L j m) (by omega)]
 simp only [a1, a2]
 (repeat' split) <;> first | omega | rfl | (congr 1; omega)
theorem ins_del_hi (h1 : j + m ≤ i) (h2 : i ≤ L.length) : delT (insT L i t) j m = insT (delT L j m) (i - m) t := by
 refine List.ext_getElem? fun x => ?_
 have a1 := fun x => insT_get (L := L) (i := i) (t := t) (by omega) x
 have a2 := fun x => delT_get (L := L) (i := j) (m := m) (by omega) x
 have b1 := insT_len (L := L) (i := i) (t := t) (by omega)
 have b2 := delT_len (L := L) (i := j) (m := m) (by omega)
 rw [delT_get (L := insT L i t) (by omega), insT_get (L := delT L j m) (by omega)]
 simp only [a1, a2]
 (repeat' split) <;> first | omega | rfl | (congr 1; omega)
theorem ins_del_mid (h1 : j < i) (h3 : i < j + m) (h2 : j + m ≤ L.length) : delT (delT (insT L i t) j (i - j)) (j + t.length) (m - (i - j)) = insT (delT L j m) j t := by
 refine List.ext_getElem? fun x => ?_
 have a1 := fun x => insT_get (L := L) (i := i) (t := t) (by omega) x
 have a2 := fun x => delT_get (L := L) (i := j) (m := m) (by omega) x
 have b1 := insT_len (L := L) (i := i) (t := t) (by omega)
 have b2 := delT_len (L := L) (i := j) (m := m) (by omega)
 have a3 := fun x => delT_get (L := insT L i t) (i := j) (m := i - j) (by omega) x
 have b3 := delT_len (L := insT L i t) (i := j) (m := i - j) (by omega)
 rw [delT_get (L := delT (insT L i t) j (i - j)) (by omega), insT_get (L := delT L j m) (by omega)]
 simp only [a3, a1, a2]
 (repeat' split) <;> first | omega | rfl | (congr 1; omega)
def ovl (i m j k : Nat) : Nat := min (i + m) (j + k) - max i j
def ahd (i j k : Nat) : Nat := min (j + k) i - j
theorem del_del (h1 : i + m ≤ L.length) (h2 : j + k ≤ L.length) : delT (delT L i m) (j - ahd j i m) (k - ovl i m j k) = delT (delT L j k) (i - ahd i j k) (m - ovl i m j k) := by
 unfold ovl ahd
 refine List.ext_getElem? fun x => ?_
 have a1 := fun x => delT_get (L := L) (i := i) (m := m) (by omega) x
 have a2 := fun x => delT_get (L := L) (i := j) (m := k) (by omega) x
 have b1 := delT_len (L := L) (i := i) (m := m) (by omega)
 have b2 := delT_len (L := L) (i := j) (m := k) (by omega)
 rw [delT_get (L := delT L i m) (by omega), delT_get (L := delT L j k) (by omega)]
 simp only [a1, a2]
 (repeat' split) <;> first | omega | rfl | (congr 1; omega)
end
theorem bys_inj {a b : ByteArray} (h : bys a = bys b) : a = b := by
 cases a; cases b
 exact congrArg ByteArray.mk (Array.toList_inj.1 h)
theorem bys_append (a b : ByteArray) : bys (a ++ b) = bys a ++ bys b := by
 show (a ++ b).data.toList = _
 rw [ByteArray.data_append, Array.toList_append]
theorem bys_len (a : ByteArray) : (bys a).length = a.size := rfl
theorem bys_front (a : ByteArray) (i : Nat) : bys (a.extract 0 i) = (bys a).take i := by
 show (a.extract 0 i).data.toList = _
 rw [ByteArray.data_extract]
 simp [List.extract]
theorem bys_back (a : ByteArray) (i : Nat) : bys (a.extract i a.size) = (bys a).drop i := by
 show (a.extract i a.size).data.toList = _
 rw [ByteArray.data_extract]
 simp only [Array.toList_extract, List.extract]
 rw [List.take_of_length_le]
 rw [List.length_drop, bys_len]; omega
theorem textD_8 (s : ByteArray) {c : Cp} (h : c.kind = 8) : bys (textD s c) = insT (bys s) c.i.toNat (bys c.s) := by
 unfold textD insT
 rw [if_pos h, bys_append, bys_append, bys_front, bys_back, List.append_assoc]
theorem textD_9 (s : ByteArray) {c : Cp} (h : c.kind = 9) : bys (textD s c) = delT (bys s) c.i.toNat c.n.toNat := by
 unfold textD delT
 rw [if_neg (by rw [h]; decide), bys_append, bys_front, bys_back]
def TDoL (c : Cp) : ByteArray → List (Int × Int) → ByteArray → Prop
 | s, [], z => z = s
 | s, p :: ps, z => TextC s.size { c with i := p.1, n := p.2 } ∧ TDoL c (textD s { c with i := p.1, n := p.2 }) ps z
theorem ins_size {s : ByteArray} {c : Cp} (h : c.kind = 8) (hi : c.i.toNat ≤ s.size) : (textD s c).size = s.size + c.s.size := by
 rw [← bys_len, textD_8 s h, insT_len (by rw [bys_len]; exact hi), bys_len, bys_len]
theorem del_size {s : ByteArray} {c : Cp} (h : c.kind = 9) (hi : c.i.toNat + c.n.toNat ≤ s.size) : (textD s c).size = s.size - c.n.toNat := by
 rw [← bys_len, textD_9 s h, delT_len (by rw [bys_len]; exact hi), bys_len]
theorem text_meet (s : ByteArray) (X Y : Cp) (left : Bool) (rx ry : Nat) (hrx : X.kind = 8 → rx = X.s.size) (hry : Y.kind = 8 → ry = Y.s.size) (hX : TextC s.size X) (hY : TextC s.size Y) :
  ∃ z, TDoL Y (textD s X) (tturn Y.kind Y.i Y.n X.kind X.i X.n rx (!left)) z ∧ TDoL X (textD s Y) (tturn X.kind X.i X.n Y.kind Y.i Y.n ry left) z := by
 have t8 : tknown 8 = true := rfl
 have t9 : tknown 9 = true := rfl
 have n98 : ¬ (9 : UInt8) = 8 := by decide
 have n89 : ¬ (8 : UInt8) = 9 := by decide
 obtain ⟨xk, xp, xkey, xi, xj, xn, xv, xs⟩ := X
 obtain ⟨yk, yp, ykey, yi, yj, yn, yv, ys⟩ := Y
 simp only at hrx hry ⊢
 rcases hX with ⟨rfl, i, hi, hi2⟩ | ⟨rfl, i, m, hi, hm, hm2, hi2⟩ <;> rcases hY with ⟨rfl, j, hj, hj2⟩ | ⟨rfl, j, k, hj, hk, hk2, hj2⟩ <;> simp only at hi hj <;> subst hi hj
 ·-- both put in
  have hrx := hrx rfl
  have hry := hry rfl
  subst hrx hry
  have sx := @ins_size s ⟨8, xp, xkey, i, xj, xn, xv, xs⟩ rfl (by simpa using hi2)
  have sy := @ins_size s ⟨8, yp, ykey, j, yj, yn, yv, ys⟩ rfl (by simpa using hj2)
  simp only at sx sy
  by_cases hc : i < j ∨ (i = j ∧ left = true)
  ·have e1 : shiftL (j : Int) 8 (i : Int) xn (xs.size : Nat) (!left) = ((j + xs.size : Nat) : Int) := by unfold shiftL; rw [if_pos rfl, if_pos (hc.elim (fun h => .inl (by omega)) fun h => .inr ⟨by omega, by rw [h.2]; rfl⟩)]; omega
   have e2 : shiftL (i : Int) 8 (j : Int) yn (ys.size : Nat) left = (i : Int) := by unfold shiftL; rw [if_pos rfl, if_neg (by rintro (h | ⟨h1, h2⟩) <;> rcases hc with h3 | ⟨h3, h4⟩ <;> first | omega | (rw [h4] at h2; cases h2))]
   have q : tturn 8 (j : Int) yn 8 (i : Int) xn (xs.size : Nat) (!left) = [(((j + xs.size : Nat) : Int), yn)] := by simp only [tturn, t8, e1]; simp
   have q2 : tturn 8 (i : Int) xn 8 (j : Int) yn (ys.size : Nat) left = [((i : Int), xn)] := by simp only [tturn, t8, e2]; simp
   rw [q, q2]
   refine ⟨_, ⟨.inl ⟨rfl, j + xs.size, rfl, by rw [sx]; omega⟩, rfl⟩, .inl ⟨rfl, i, rfl, by rw [sy]; omega⟩, bys_inj ?_⟩
   rw [textD_8 _ rfl, textD_8 _ rfl, textD_8 _ rfl, textD_8 _ rfl]
   simp only [Int.toNat_natCast]
   exact ins_ins (by omega) hj2
  ·have hc2 : j < i ∨ (i = j ∧ left = false) := by
    rcases Nat.lt_trichotomy i j with h | h | h
    ·exact absurd (.inl h) hc
    ·cases left with
     | true => exact absurd (.inr ⟨h, rfl⟩) hc
     | false => exact .inr ⟨h, rfl⟩
    ·exact .inl h
   have e1 : shiftL (i : Int) 8 (j : Int) yn (ys.size : Nat) left = ((i + ys.size : Nat) : Int) := by unfold shiftL; rw [if_pos rfl, if_pos (hc2.elim (fun h => .inl (by omega)) fun h => .inr ⟨by omega, h.2⟩)]; omega
   have e2 : shiftL (j : Int) 8 (i : Int) xn (xs.size : Nat) (!left) = (j : Int) := by unfold shiftL; rw [if_pos rfl, if_neg (by rintro (h | ⟨h1, h2⟩) <;> rcases hc2 with h3 | ⟨h3, h4⟩ <;> first | omega | (rw [h4] at h2; cases h2))]
   have q : tturn 8 (j : Int) yn 8 (i : Int) xn (xs.size : Nat) (!left) = [((j : Int), yn)] := by simp only [tturn, t8, e2]; simp
   have q2 : tturn 8 (i : Int) xn 8 (j : Int) yn (ys.size : Nat) left = [(((i + ys.size : Nat) : Int), xn)] := by simp only [tturn, t8, e1]; simp
   rw [q, q2]
   refine ⟨_, ⟨.inl ⟨rfl, j, rfl, by rw [sx]; omega⟩, rfl⟩, .inl ⟨rfl, i + ys.size, rfl, by rw [sy]; omega⟩, bys_inj ?_⟩
   rw [textD_8 _ rfl, textD_8 _ rfl, textD_8 _ rfl, textD_8 _ rfl]
   simp only [Int.toNat_natCast]
   exact (ins_ins (by omega) hi2).symm
 ·-- X puts in, Y takes out
  simp only at hk
  subst hk
  have hrx := hrx rfl
  subst hrx
  have sx := @ins_size s ⟨8, xp, xkey, i, xj, xn, xv, xs⟩ rfl (by simpa using hi2)
  have sy := @del_size s ⟨9, yp, ykey, j, yj, k, yv, ys⟩ rfl (by simpa using hj2)
  simp only [Int.toNat_natCast] at sx sy
  have q0 : tturn 9 (j : Int) k 8 (i : Int) xn (xs.size : Nat) (!left) = splitL j k i (xs.size : Nat) := by simp only [tturn, t8, t9]; simp
  have q1 : tturn 8 (i : Int) xn 9 (j : Int) k ry left = [(shiftL i 9 j k ry left, xn)] := by simp only [tturn, t8, t9]; simp
  rw [q0, q1]
  by_cases c1 : i ≤ j
  ·have e1 : splitL (j : Int) k i (xs.size : Nat) = [(((j + xs.size : Nat) : Int), (k : Int))] := by unfold splitL; rw [if_pos (by omega)]; congr 2
   have e2 : shiftL (i : Int) 9 j k ry left = i := by unfold shiftL; rw [if_neg n98, if_neg (by omega), if_neg (by omega)]
   rw [e1, e2]
   refine ⟨_, ⟨.inr ⟨rfl, j + xs.size, k, rfl, rfl, hk2, by rw [sx]; omega⟩, rfl⟩, .inl ⟨rfl, i, rfl, by rw [sy]; omega⟩, bys_inj ?_⟩
   rw [textD_9 _ rfl, textD_8 _ rfl, textD_8 _ rfl, textD_9 _ rfl]
   simp only [Int.toNat_natCast]
   exact ins_del_lo c1 hj2
  ·by_cases c2 : j + k ≤ i
   ·have e1 : splitL (j : Int) k i (xs.size : Nat) = [((j : Int), (k : Int))] := by unfold splitL; rw [if_neg (by omega), if_pos (by omega)]
    have e2 : shiftL (i : Int) 9 j k ry left = ((i - k : Nat) : Int) := by unfold shiftL; rw [if_neg n98, if_pos (by omega)]; omega
    rw [e1, e2]
    refine ⟨_, ⟨.inr ⟨rfl, j, k, rfl, rfl, hk2, by rw [sx]; omega⟩, rfl⟩, .inl ⟨rfl, i - k, rfl, by rw [sy]; omega⟩, bys_inj ?_⟩
    rw [textD_9 _ rfl, textD_8 _ rfl, textD_8 _ rfl, textD_9 _ rfl]
    simp only [Int.toNat_natCast]
    exact ins_del_hi c2 hi2
   ·have e1 : splitL (j : Int) k i (xs.size : Nat) = [((j : Int), ((i - j : Nat) : Int)), (((j + xs.size : Nat) : Int), ((k - (i - j) : Nat) : Int))] := by
     unfold splitL
     rw [if_neg (by omega), if_neg (by omega), show (i : Int) - j = ((i - j : Nat) : Int) from by omega, show (k : Int) - ((i - j : Nat) : Int) = ((k - (i - j) : Nat) : Int) from by omega]
     congr 2
    have e2 : shiftL (i : Int) 9 j k ry left = (j : Int) := by unfold shiftL; rw [if_neg n98, if_neg (by omega), if_pos (by omega)]
    rw [e1, e2]
    have s2 := @del_size (textD s ⟨8, xp, xkey, i, xj, xn, xv, xs⟩) ⟨9, yp, ykey, j, yj, ((i - j : Nat) : Int), yv, ys⟩ rfl (by simp only [Int.toNat_natCast]; omega)
    simp only [Int.toNat_natCast] at s2
    refine ⟨_, ⟨.inr ⟨rfl, j, i - j, rfl, rfl, by omega, by rw [sx]; omega⟩, .inr ⟨rfl, j + xs.size, k - (i - j), rfl, rfl, by omega, by rw [s2, sx]; omega⟩, rfl⟩, .inl ⟨rfl, j, rfl, by rw [sy]; omega⟩, bys_inj ?_⟩
    rw [textD_9 _ rfl, textD_9 _ rfl, textD_8 _ rfl, textD_8 _ rfl, textD_9 _ rfl]
    simp only [Int.toNat_natCast]
    exact ins_del_mid (by omega) (by omega) hj2
 ·-- X takes out, Y puts in
  simp only at hm
  subst hm
  have hry := hry rfl
  subst hry
  have sy := @ins_size s ⟨8, yp, ykey, j, yj, yn, yv, ys⟩ rfl (by simpa using hj2)
  have sx := @del_size s ⟨9, xp, xkey, i, xj, m, xv, xs⟩ rfl (by simpa using hi2)
  simp only [Int.toNat_natCast] at sx sy
  have q0 : tturn 9 (i : Int) m 8 (j : Int) yn (ys.size : Nat) left = splitL i m j (ys.size : Nat) := by simp only [tturn, t8, t9]; simp
  have q1 : tturn 8 (j : Int) yn 9 (i : Int) m rx (!left) = [(shiftL j 9 i m rx (!left), yn)] := by simp only [tturn, t8, t9]; simp
  rw [q0, q1]
  by_cases c1 : j ≤ i
  ·have e1 : splitL (i : Int) m j (ys.size : Nat) = [(((i + ys.size : Nat) : Int), (m : Int))] := by unfold splitL; rw [if_pos (by omega)]; congr 2
   have e2 : shiftL (j : Int) 9 i m rx (!left) = j := by unfold shiftL; rw [if_neg n98, if_neg (by omega), if_neg (by omega)]
   rw [e1, e2]
   refine ⟨_, ⟨.inl ⟨rfl, j, rfl, by rw [sx]; omega⟩, rfl⟩, .inr ⟨rfl, i + ys.size, m, rfl, rfl, hm2, by rw [sy]; omega⟩, bys_inj ?_⟩
   rw [textD_8 _ rfl, textD_9 _ rfl, textD_9 _ rfl, textD_8 _ rfl]
   simp only [Int.toNat_natCast]
   exact (ins_del_lo c1 hi2).symm
  ·by_cases c2 : i + m ≤ j
   ·have e1 : splitL (i : Int) m j (ys.size : Nat) = [((i : Int), (m : Int))] := by unfold splitL; rw [if_neg (by omega), if_pos (by omega)]
    have e2 : shiftL (j : Int) 9 i m rx (!left) = ((j - m : Nat) : Int) := by unfold shiftL; rw [if_neg n98, if_pos (by omega)]; omega
    rw [e1, e2]
    refine ⟨_, ⟨.inl ⟨rfl, j - m, rfl, by rw [sx]; omega⟩, rfl⟩, .inr ⟨rfl, i, m, rfl, rfl, hm2, by rw [sy]; omega⟩, bys_inj ?_⟩
    rw [textD_8 _ rfl, textD_9 _ rfl, textD_9 _ rfl, textD_8 _ rfl]
    simp only [Int.toNat_natCast]
    exact (ins_del_hi c2 hj2).symm
   ·have e1 : splitL (i : Int) m j (ys.size : Nat) = [((i : Int), ((j - i : Nat) : Int)), (((i + ys.size : Nat) : Int), ((m - (j - i) : Nat) : Int))] := by
     unfold splitL
     rw [if_neg (by omega), if_neg (by omega), show (j : Int) - i = ((j - i : Nat) : Int) from by omega, show (m : Int) - ((j - i : Nat) : Int) = ((m - (j - i) : Nat) : Int) from by omega]
     congr 2
    have e2 : shiftL (j : Int) 9 i m rx (!left) = (i : Int) := by unfold shiftL; rw [if_neg n98, if_neg (by omega), if_pos (by omega)]
    rw [e1, e2]
    have s2 := @del_size (textD s ⟨8, yp, ykey, j, yj, yn, yv, ys⟩) ⟨9, xp, xkey, i, xj, ((j - i : Nat) : Int), xv, xs⟩ rfl (by simp only [Int.toNat_natCast]; omega)
    simp only [Int.toNat_natCast] at s2
    refine ⟨_, ⟨.inl ⟨rfl, i, rfl, by rw [sx]; omega⟩, rfl⟩, .inr ⟨rfl, i, j - i, rfl, rfl, by omega, by rw [sy]; omega⟩, .inr ⟨rfl, i + ys.size, m - (j - i), rfl, rfl, by omega, by rw [s2, sy]; omega⟩, bys_inj ?_⟩
    rw [textD_8 _ rfl, textD_9 _ rfl, textD_9 _ rfl, textD_9 _ rfl, textD_8 _ rfl]
    simp only [Int.toNat_natCast]
    exact (ins_del_mid (by omega) (by omega) hi2).symm
 ·-- both take out
  simp only at hk hm
  subst hk hm
  have sx := @del_size s ⟨9, xp, xkey, i, xj, m, xv, xs⟩ rfl (by simpa using hi2)
  have sy := @del_size s ⟨9, yp, ykey, j, yj, k, yv, ys⟩ rfl (by simpa using hj2)
  simp only [Int.toNat_natCast] at sx sy
  have e1 : shrinkL (j : Int) k i m = (((j - ahd j i m : Nat) : Int), ((k - ovl i m j k : Nat) : Int)) := by unfold shrinkL ahd ovl; congr 1 <;> omega
  have e2 : shrinkL (i : Int) m j k = (((i - ahd i j k : Nat) : Int), ((m - ovl i m j k : Nat) : Int)) := by unfold shrinkL ahd ovl; congr 1 <;> omega
  have q0 : tturn 9 (j : Int) k 9 (i : Int) m rx (!left) = if k - ovl i m j k = 0 then [] else [(((j - ahd j i m : Nat) : Int), ((k - ovl i m j k : Nat) : Int))] := by
   simp only [tturn, t9, e1]
   by_cases h : k - ovl i m j k = 0
   ·simp [h]
   ·rw [if_neg (by simp), if_neg n98, if_neg n98, if_neg (by omega), if_neg h]
  have q1 : tturn 9 (i : Int) m 9 (j : Int) k ry left = if m - ovl i m j k = 0 then [] else [(((i - ahd i j k : Nat) : Int), ((m - ovl i m j k : Nat) : Int))] := by
   simp only [tturn, t9, e2]
   by_cases h : m - ovl i m j k = 0
   ·simp [h]
   ·rw [if_neg (by simp), if_neg n98, if_neg n98, if_neg (by omega), if_neg h]
  rw [q0, q1]
  have hd := del_del (L := bys s) hi2 hj2
  have hin : ∀ (c : Cp) (w : ByteArray) (a b : Nat), c.kind = 9 → a + b ≤ w.size → ∃ z, bys z = delT (bys w) a b ∧ TDoL c w (if b = 0 then [] else [((a : Int), (b : Int))]) z := by
   intro c w a b hc h
   by_cases h0 : b = 0
   ·rw [if_pos h0]; exact ⟨w, by rw [h0, delT_zero], rfl⟩
   ·rw [if_neg h0]
    exact ⟨_, by rw [textD_9 w (c := { c with i := (a : Int), n := (b : Int) }) hc]; simp, .inr ⟨hc, a, b, rfl, rfl, by omega, h⟩, rfl⟩
  obtain ⟨z1, hz1, hd1⟩ := hin ⟨9, yp, ykey, j, yj, k, yv, ys⟩ (textD s ⟨9, xp, xkey, i, xj, m, xv, xs⟩) (j - ahd j i m) (k - ovl i m j k) rfl (by rw [sx]; unfold ovl ahd; omega)
  obtain ⟨z2, hz2, hd2⟩ := hin ⟨9, xp, xkey, i, xj, m, xv, xs⟩ (textD s ⟨9, yp, ykey, j, yj, k, yv, ys⟩) (i - ahd i j k) (m - ovl i m j k) rfl (by rw [sy]; unfold ovl ahd; omega)
  have : z1 = z2 := by
   apply bys_inj
   rw [hz1, hz2, textD_9 _ rfl, textD_9 _ rfl]
   simp only [Int.toNat_natCast]
   exact hd
  exact ⟨z1, hd1, this ▸ hd2⟩
abbrev cpL (c : Cp) (pv lv ov : Value) : List Value := [U8 c.kind, pv, .string c.key, .int .i64 c.i, .int .i64 c.j, .int .i64 c.n, U8 c.v.kind, .int .i64 c.v.n, .string c.v.s, lv, ov, .string c.s]
def ECp : El Cp := { size := 12, rd := fun w S cs c => ∃ pv lv ov, cs = cpL c pv lv ov ∧ Sl ESt w S pv c.path ∧ Sl EVal w S lv c.v.l ∧ Sl EField w S ov c.v.o }
theorem ECp.ok : ECp.Ok where
 pos := by show 0 < 12; decide
 len := fun ⟨_, _, _, h, _⟩ => by subst h; rfl
 one := fun ⟨pv, lv, ov, h, h1, h2, h3⟩ u hu => by
  subst h
  obtain ⟨A, c, rfl, _⟩ := h1.shape
  obtain ⟨B, d, rfl, _⟩ := h2.shape
  obtain ⟨C, e, rfl, _⟩ := h3.shape
  simp only [List.mem_cons, List.not_mem_nil, or_false] at hu
  rcases hu with rfl | rfl | rfl | rfl | rfl | rfl | rfl | rfl | rfl | rfl | rfl | rfl <;> rfl
 keep := fun ⟨pv, lv, ov, h, h1, h2, h3⟩ hk hF => ⟨pv, lv, ov, h, h1.keep ESt.ok hk hF, h2.keep EVal.ok hk hF, h3.keep EField.ok hk hF⟩
 more := fun ⟨pv, lv, ov, h, h1, h2, h3⟩ hS => ⟨pv, lv, ov, h, h1.more ESt.ok hS, h2.more EVal.ok hS, h3.more EField.ok hS⟩
theorem cells_blk {g : Nat} {T : TypeId} : ∀ (m : List Value) (o : Nat) (w : World) (cur : Array Value), Blk w g T cur → o + m.length ≤ cur.size →
  ∃ cur', Blk (w.setCells g o m) g T cur' ∧ cur'.toList = cur.toList.take o ++ m ++ cur.toList.drop (o + m.length)
 | [], o, w, cur, h, ho => ⟨cur, h, by simp⟩
 | v :: m, o, w, cur, h, ho => by
  have ho' : o + (m.length + 1) ≤ cur.size := ho
  obtain ⟨cur', h1, h2⟩ := cells_blk m (o + 1) _ _ (h.set_ o v) (by rw [Array.size_setIfInBounds]; omega)
  refine ⟨cur', h1, ?_⟩
  have hl : o < cur.toList.length := by simp; omega
  rw [h2, Array.toList_setIfInBounds, List.set_eq_take_append_cons_drop, if_pos hl]
  have e0 : (cur.toList.take o).length = o := by rw [List.length_take]; omega
  have e1 : (cur.toList.take o ++ v :: cur.toList.drop (o + 1)).take (o + 1) = cur.toList.take o ++ [v] := by
   rw [List.take_append, e0, List.take_of_length_le (by omega), Nat.add_sub_cancel_left]; rfl
  have e2 : (cur.toList.take o ++ v :: cur.toList.drop (o + 1)).drop (o + 1 + m.length) = cur.toList.drop (o + (v :: m).length) := by
   rw [List.drop_append, e0, List.drop_of_length_le (by omega), List.nil_append, show o + 1 + m.length - o = m.length + 1 from by omega, List.drop_succ_cons, List.drop_drop]
   congr 1
   show o + 1 + m.length = o + (m.length + 1)
   omega
  rw [e1, e2]; simp
theorem cells_keep (g : Nat) : ∀ (m : List Value) (o : Nat) (w : World), Keep (· = g) w (w.setCells g o m)
 | [], o, w => Keep.refl _ _
 | v :: m, o, w => ((Keep.refl (· = g) w).set1 o v).trans (cells_keep g m (o + 1) _) fun _ _ h => h
theorem own_put {w : World} {base g cap j : Nat} {S S2 : BS} {xs : List Cp} {m : List Value} (h : Own ECp w base TCMP S (.slice (some ⟨g, 0, none⟩) xs.length cap) xs) (hj : j < xs.length) (hS : ¬ S g) (hS2 : ¬ S2 g) (hx : ECp.rd w S2 m xs[j]) :
  Own ECp (w.setCells g (j * 12) m) base TCMP (fun k => S k ∨ S2 k) (.slice (some ⟨g, 0, none⟩) xs.length cap) xs := by
 obtain ⟨cur, hbg, _, hblk, hcap, hcm, hsz, hc⟩ := own_cells2 h
 have e12 : ECp.size = 12 := rfl
 rw [e12] at hsz
 have hml : m.length = 12 := ECp.ok.len hx
 have h6 : (j + 1) * 12 ≤ cap * 12 := Nat.mul_le_mul_right _ (by omega)
 obtain ⟨cur', hb', hl'⟩ := cells_blk m (j * 12) w cur hblk (by omega)
 have hkk := cells_keep g m (j * 12) w
 rw [hml] at hl'
 have := own_set ECp.ok hc hbg hcap hcm hsz hj hkk hb' hl' (ECp.ok.keep hx hkk fun k hk e => hS2 (e ▸ hk)) hS
 rw [List.set_getElem_self] at this
 exact this
def OwnC (b : Nat) (g cap n : Nat) (l : List Cp) (w : World) : Prop := Own ECp w b TCMP (fun k => k ≠ g) (.slice (some ⟨g, 0, none⟩) n cap) l
abbrev Fit (c : Cp) : Prop := c.path.length ≤ 1000 ∧ c.v.size ≤ 1000000
def OwnIs (b g cap n : Nat) (l : List Cp) (w : World) (e : Ending) (w' : World) : Prop := e = .returned (.slice (some ⟨g, 0, none⟩) n cap) ∧ OwnC b g cap n l w' ∧ Keep (· = g) w w'
theorem ownc_put {b g cap n j : Nat} {l : List Cp} {w0 w : World} {c : Cp} {pv lv ov : Value} (h : OwnC b g cap n l w) (hn : l.length = n) (hj : j < n) (hc : l[j]? = some c)
  (h1 : Sl ESt w (fun k => w0.heap.size ≤ k) pv c.path) (h2 : Sl EVal w (fun k => w0.heap.size ≤ k) lv c.v.l) (h3 : Sl EField w (fun k => w0.heap.size ≤ k) ov c.v.o) (hg : g < w0.heap.size) :
  OwnC b g cap n l (w.setCells g (j * 12) (cpL c pv lv ov)) := by
 subst hn
 have hj' : l[j] = c := (List.getElem?_eq_some_iff.1 hc).2
 have hr : ECp.rd w (fun k => w0.heap.size ≤ k) (cpL c pv lv ov) l[j] := by rw [hj']; exact ⟨pv, lv, ov, rfl, h1, h2, h3⟩
 have := own_put h hj (by simp) (by show ¬ _; omega) hr
 exact Own.more ECp.ok this fun k _ hk => by
  rcases hk with hk | hk
  ·exact hk
  ·show k ≠ g; omega
theorem Sl.lt_ {w : World} {S : BS} {v : Value} {l : List Cp} (h : Sl ECp w S v l) : Sl ECp w (fun k => k < w.heap.size) v l := h.more ECp.ok fun _ h1 _ => h1
theorem own_any (w : World) (b g cap n : Nat) (l : List Cp) (h : OwnC b g cap n l w) (hn : l.length = n) (hl : n ≤ 1000) (hf : ∀ c ∈ l, Fit c) :
  Calls Tryd.prog 28 #[.slice (some ⟨g, 0, none⟩) n cap] w (OwnIs b g cap n l w) := by
 have H := hid h
 have HF := hid hf
 have HN := hid hn
 have hcap : n ≤ cap ∧ cap ≤ maxLen ∧ g < w.heap.size := by
  obtain ⟨cur, _, _, hblk, h1, h2, _⟩ := own_cells2 (show Own ECp w b TCMP _ _ l from h)
  exact ⟨by omega, h2, hblk.lt⟩
 obtain ⟨hc1, hc2, hg⟩ := hcap
 unfold maxLen at hc2
 have HG := hid hg
 clear h hf hn hg
 go_enter Tryd.func28, Tryd.ntmps28
 go_wp2_with fail
 go_loopw [6] (fun i wr => ∃ j : Nat, j ≤ n ∧ i = .int .i64 j ∧ OwnC b g cap n l wr ∧ Keep (· = g) w wr) (fun i _ => n - (intOf i).toNat)
 case atStart => exact ⟨0, by omega, rfl, H.out, Keep.refl _ _⟩
 case round =>
  obtain ⟨j, hj, rfl, hO, hK⟩ := hrel
  by_cases hlt : j < n
  ·have hj' : j < l.length := by rw [HN.out]; exact hlt
   obtain ⟨c0, ⟨pv, lv, ov, rfl, h1, h2, h3⟩, hcell⟩ := Own.at_ ECp.ok hO hj'
   have HFJ := hid (HF.out _ (List.getElem_mem hj'))
   have HJ := hid (List.getElem?_eq_some_iff.2 ⟨hj', rfl⟩ : l[j]? = some l[j])
   generalize l[j] = c at *
   have HCA := hid (show CAt wr _ (.agg (cpCells c pv lv ov)) c from ⟨pv, lv, ov, rfl, h1, h2, h3⟩)
   obtain ⟨Ap, cp, rfl, _⟩ := h1.shape
   obtain ⟨Al, cl, rfl, _⟩ := h2.shape
   obtain ⟨Ao, co, rfl, _⟩ := h3.shape
   have hfz := fun i => Own.frozen hO i
   have e12 : ECp.size = 12 := rfl
   have g0 := hcell 0 _ rfl
   have g1 := hcell 1 _ rfl
   have g2 := hcell 2 _ rfl
   have g3 := hcell 3 _ rfl
   have g4 := hcell 4 _ rfl
   have g5 := hcell 5 _ rfl
   have g6 := hcell 6 _ rfl
   have g7 := hcell 7 _ rfl
   have g8 := hcell 8 _ rfl
   have g9 := hcell 9 _ rfl
   have g10 := hcell 10 _ rfl
   have g11 := hcell 11 _ rfl
   simp only [e12, Nat.add_zero] at g0 g1 g2 g3 g4 g5 g6 g7 g8 g9 g10 g11
   have z0 := hfz (j * 12)
   have z1 := hfz (j * 12 + 1)
   have z2 := hfz (j * 12 + 2)
   have z3 := hfz (j * 12 + 3)
   have z4 := hfz (j * 12 + 4)
   have z5 := hfz (j * 12 + 5)
   have z6 := hfz (j * 12 + 6)
   have z7 := hfz (j * 12 + 7)
   have z8 := hfz (j * 12 + 8)
   have z9 := hfz (j * 12 + 9)
   have z10 := hfz (j * 12 + 10)
   have z11 := hfz (j * 12 + 11)
   have HO := hid hO
   have HK := hid hK
   clear hO hK hcell hfz h1 h2 h3
   go_wp2_with fail
   refine (comp_copy _ _ _ c HCA.out HFJ.out.1 HFJ.out.2).mono ?_
   rintro e w1 ⟨u', rfl, ⟨qv, mv, nv, rfl, k1, k2, k3⟩, hE1⟩
   obtain ⟨Bp, dp, rfl, _⟩ := k1.shape
   obtain ⟨Bl, dl, rfl, _⟩ := k2.shape
   obtain ⟨Bo, do_, rfl, _⟩ := k3.shape
   have hO1 : OwnC b g cap n l w1 := Own.ext ECp.ok HO.out hE1
   have hfz1 := fun i => Own.frozen hO1 i
   replace g0 := sqw hE1 g0
   replace g1 := sqw hE1 g1
   replace g2 := sqw hE1 g2
   replace g3 := sqw hE1 g3
   replace g4 := sqw hE1 g4
   replace g5 := sqw hE1 g5
   replace g6 := sqw hE1 g6
   replace g7 := sqw hE1 g7
   replace g8 := sqw hE1 g8
   replace g9 := sqw hE1 g9
   replace g10 := sqw hE1 g10
   replace g11 := sqw hE1 g11
   replace z0 := hfz1 (j * 12)
   replace z1 := hfz1 (j * 12 + 1)
   replace z2 := hfz1 (j * 12 + 2)
   replace z3 := hfz1 (j * 12 + 3)
   replace z4 := hfz1 (j * 12 + 4)
   replace z5 := hfz1 (j * 12 + 5)
   replace z6 := hfz1 (j * 12 + 6)
   replace z7 := hfz1 (j * 12 + 7)
   replace z8 := hfz1 (j * 12 + 8)
   replace z9 := hfz1 (j * 12 + 9)
   replace z10 := hfz1 (j * 12 + 10)
   replace z11 := hfz1 (j * 12 + 11)
   have hN := ownc_put hO1 HN.out hlt HJ.out k1 k2 k3 (by have := HG.out; have := HK.out.size; omega)
   have hKN : Keep (· = g) w (w1.setCells g (j * 12) (cpL c (.slice Bp c.path.length dp) (.slice Bl c.v.l.length dl) (.slice Bo c.v.o.length do_))) := (HK.out.trans hE1 fun _ _ h => h.elim).trans (cells_keep g _ _ _) fun _ _ h => h
   have HNN := hid hN
   have HKN := hid hKN
   clear hN hKN hO1 hfz1 hE1 k1 k2 k3
   go_wp2
   exact ⟨⟨j + 1, by omega, by go_num, HNN.out, HKN.out⟩, by simp [intOf]; omega⟩
  ·have hjn : j = n := by omega
   subst hjn
   have HO := hid hO
   have HK := hid hK
   clear hO hK
   go_wp2
   go_ret
   exact ⟨rfl, HO.out, HK.out⟩
def ListIs (w : World) (v : Value) (l : List Cp) (e : Ending) (w' : World) : Prop := e = .returned v ∧ Sl ECp w' (fun k => k < w'.heap.size) v l ∧ Keep (fun k => v.ownBlock = some k) w w'
theorem own_list (w : World) (b : Nat) (S : BS) (v : Value) (l : List Cp) (h : Own ECp w b TCMP S v l) (hS : ∀ g, v.ownBlock = some g → ¬ S g) (hl : l.length ≤ 1000) (hf : ∀ c ∈ l, Fit c) :
  Calls Tryd.prog 28 #[v] w (ListIs w v l) := by
 rcases Nat.eq_zero_or_pos l.length with h0 | h0
 ·obtain rfl := List.eq_nil_of_length_eq_zero h0
  rcases h with ⟨rfl, _⟩ | ⟨g, cap, cur, rfl, h1, h2, h3, h4, h5, h6⟩
  ·exact (own_nil w).mono fun e w' h => ⟨h.1, Sl.nil _ _, by rw [h.2]; exact Keep.refl _ _⟩
  ·refine (own_any w b g cap 0 [] (.inr ⟨g, cap, cur, rfl, h1, h2, h3, h4, h5, rfl⟩) rfl (by simp) (fun c hc => by cases hc)).mono fun e w' h => ⟨h.1, ?_, h.2.2.mono fun k _ hk => by rw [hk]; rfl⟩
   exact (Own.sl ECp.ok h.2.1).lt_
 ·obtain ⟨g, cap, rfl, h1, h2, h3, h4⟩ := h.form h0
  have hS' := hS g rfl
  refine (own_any w b g cap _ l (Own.more ECp.ok h fun k _ hk => by show k ≠ g; intro e; subst e; exact hS' hk) rfl hl hf).mono fun e w' h => ⟨h.1, ?_, h.2.2.mono fun k _ hk => by rw [hk]; rfl⟩
  exact (Own.sl ECp.ok h.2.1).lt_
end Go.Proofs.YtioplgfopillnaaDoor
