/- SeqB, SeqC, SeqD, SeqP, SeqQ7, Do5W, SeqRA, SeqRE7, Do5A: laid together. -/
import Derived.Test.YtggkidnlmaindaaDoorPxB22
import Derived.Deep.QuietTactic
import Derived.BigQuiet
import Derived.IntWalk
import Derived.Test.YtggkidnlmaindaaDoorPxB28
import Derived.Test.YtggkidnlmaindaaDoorPxB24
import Derived.Test.YtggkidnlmaindaaDoorPxB6
set_option linter.unusedSimpArgs false
set_option linter.unusedVariables false
set_option maxHeartbeats 25600000
set_option maxRecDepth 20000
namespace Go.Proofs.YtggkidnlmaindaaDoor
open Go.RowKit
def gapL (k : Int) (bk : UInt8) (bi bj : Int) (left : Bool) : Int :=
 if bk = 4 then k + up bi k (!left)
 else if bk = 5 then k - bl bi k
 else if bk = 7 then (k - bl bi k) + up bj (k - bl bi k) (!left)
 else k
def targetL (ai aj : Int) (bk : UInt8) (bi bj : Int) (left : Bool) : Int :=
 if bk = 4 then aj + up (bi - bl ai bi) aj (!left)
 else if bk = 5 then aj - bl (bi - bl ai bi) aj
 else if bk = 7 then (aj - bl (bi - bl ai bi) aj) + up (bj - bl (ai - bl bi ai) bj) (aj - bl (bi - bl ai bi) aj) (!left)
 else aj
def moveL (ai aj : Int) (bk : UInt8) (bi bj : Int) (left : Bool) : Option (Int × Int) :=
 if ai = bi ∧ bk = 5 then none
 else if ai = bi ∧ bk = 7 ∧ left = false then none
 else if ai = bi ∧ bk = 7 then some (bj, aj)
 else some (if bk = 6 then ai else (atL bk bi bj ai).1, targetL ai aj bk bi bj left)
def turnL (ak : UInt8) (ai aj : Int) (bk : UInt8) (bi bj : Int) (left : Bool) : Option (Int × Int) :=
 if knownL ak = false then some (ai, aj)
 else if knownL bk = false then some (ai, aj)
 else if ak = 4 then some (gapL ai bk bi bj left, aj)
 else if ak = 7 then moveL ai aj bk bi bj left
 else if ai = bi ∧ bk = 6 then (if ak = 5 ∨ left = true then some (ai, aj) else none)
 else if (atL bk bi bj ai).2 = true then some ((atL bk bi bj ai).1, aj) else none
section
variable {ak bk : UInt8} {ai aj bi bj : Int} {left : Bool}
end
def src (c : UInt8) (i j k : Int) : Int :=
 if c = 4 then (if k < i then k else k - 1)
 else if c = 5 then (if k < i then k else k + 1)
 else if c = 6 then k
 else if k = j then i else (if k < j then (if k < i then k else k + 1) else (if k - 1 < i then k - 1 else k))
def isNew (c : UInt8) (i k : Int) : Prop := (c = 4 ∨ c = 6) ∧ k = i
def dlen (c : UInt8) : Int := if c = 4 then 1 else if c = 5 then -1 else 0
instance (c : UInt8) (i k : Int) : Decidable (isNew c i k) := by unfold isNew; infer_instance
def two (xk : UInt8) (xi xj : Int) (y' : Option (Int × Int)) (yk : UInt8) (k : Int) : Bool ⊕ Int :=
 match y' with
 | none => if isNew xk xi k then .inl true else .inr (src xk xi xj k)
 | some (yi, yj) => if isNew yk yi k then .inl false else if isNew xk xi (src yk yi yj k) then .inl true else .inr (src xk xi xj (src yk yi yj k))
def swp : Bool ⊕ Int → Bool ⊕ Int
 | .inl b => .inl (!b)
 | .inr k => .inr k
theorem sw1 (b : Bool) : swp (.inl b) = .inl (!b) := rfl
theorem sw2 (k : Int) : swp (.inr k) = .inr k := rfl
theorem t46 (xi yi k : Int) (xj yj : Int) (left : Bool) : two 4 xi xj (turnL 6 yi yj 4 xi xj (!left)) 6 k = swp (two 6 yi yj (turnL 4 xi xj 6 yi yj left) 4 k) := by
 rcases Int.lt_trichotomy xi yi with h | rfl | h
 ·have h1 : ¬ xi = yi := by omega
  have h2 : ¬ yi = xi := by omega
  have h3 : ¬ yi < xi := by omega
  cases left <;> simp [turnL, knownL, two, gapL, src, isNew, up, bl, atL, moveL, targetL, apply_ite swp, sw1, sw2, h, h1, h2, h3] <;> (repeat' split) <;> first | rfl | (exfalso; omega) | (congr 1; omega)
 ·cases left <;> simp [turnL, knownL, two, gapL, src, isNew, up, bl, atL, moveL, targetL, apply_ite swp, sw1, sw2] <;> (repeat' split) <;> first | rfl | (exfalso; omega) | (congr 1; omega)
 ·have h1 : ¬ xi = yi := by omega
  have h2 : ¬ yi = xi := by omega
  have h3 : ¬ xi < yi := by omega
  cases left <;> simp [turnL, knownL, two, gapL, src, isNew, up, bl, atL, moveL, targetL, apply_ite swp, sw1, sw2, h, h1, h2, h3] <;> (repeat' split) <;> first | rfl | (exfalso; omega) | (congr 1; omega)
structure Cm (α : Type) where
 k : UInt8
 i : Int
 j : Int
 x : α
def doL {α : Type} (l : List α) (c : Cm α) : Option (List α) :=
 if checkL l.length c.k c.i c.j = 0 then
  (if c.k = 4 then some (l.take c.i.toNat ++ c.x :: l.drop c.i.toNat)
   else if c.k = 5 then some (l.eraseIdx c.i.toNat)
   else if c.k = 6 then some (l.set c.i.toNat c.x)
   else l[c.i.toNat]?.map fun x => (l.eraseIdx c.i.toNat).take c.j.toNat ++ x :: (l.eraseIdx c.i.toNat).drop c.j.toNat)
 else none
def Fn {α : Type} (l : List α) (k : Int) : Option α := if 0 ≤ k then l[k.toNat]? else none
def doF {α : Type} (f : Int → Option α) (c : Cm α) (k : Int) : Option α := if isNew c.k c.i k then some c.x else f (src c.k c.i c.j k)
theorem ins_get {α : Type} (l : List α) (i : Nat) (x : α) (h : i ≤ l.length) (k : Nat) : (l.take i ++ x :: l.drop i)[k]? = if k < i then l[k]? else if k = i then some x else l[k - 1]? := by
 have h1 : (l.take i).length = i := by rw [List.length_take]; omega
 by_cases c : k < i
 ·rw [if_pos c, List.getElem?_append_left (by omega), List.getElem?_take_of_lt c]
 ·rw [if_neg c, List.getElem?_append_right (by omega), h1]
  by_cases e : k = i
  ·subst e; simp
  ·rw [if_neg e]
   obtain ⟨m, rfl⟩ : ∃ m, k = i + m + 1 := ⟨k - i - 1, by omega⟩
   rw [show i + m + 1 - i = m + 1 from by omega, List.getElem?_cons_succ, List.getElem?_drop, show i + m + 1 - 1 = i + m from by omega]
theorem check_ok {n : Nat} {k : UInt8} {i j : Int} (h : checkL n k i j = 0) : (k = 4 ∧ 0 ≤ i ∧ i ≤ n) ∨ (k = 5 ∧ 0 ≤ i ∧ i < n) ∨ (k = 6 ∧ 0 ≤ i ∧ i < n) ∨ (k = 7 ∧ 0 ≤ i ∧ i < n ∧ 0 ≤ j ∧ j < n) := by
 unfold checkL at h
 by_cases hk : knownL k = false
 ·rw [if_pos hk] at h; cases h
 rw [if_neg hk] at h
 by_cases h1 : i < 0 ∨ i > (if k = 4 then (n : Int) else (n : Int) - 1)
 ·rw [if_pos h1] at h; cases h
 rw [if_neg h1] at h
 by_cases h2 : k = 7 ∧ (j < 0 ∨ j ≥ (n : Int))
 ·rw [if_pos h2] at h; cases h
 have hk4 : k = 4 ∨ k = 5 ∨ k = 6 ∨ k = 7 := by
  simp [knownL] at hk
  by_cases a4 : k = 4
  ·exact .inl a4
  by_cases a5 : k = 5
  ·exact .inr (.inl a5)
  by_cases a6 : k = 6
  ·exact .inr (.inr (.inl a6))
  exact .inr (.inr (.inr (hk a4 a5 a6)))
 rcases hk4 with rfl | rfl | rfl | rfl
 ·rw [if_pos rfl] at h1; exact .inl ⟨rfl, by omega, by omega⟩
 ·rw [if_neg (by decide)] at h1; exact .inr (.inl ⟨rfl, by omega, by omega⟩)
 ·rw [if_neg (by decide)] at h1; exact .inr (.inr (.inl ⟨rfl, by omega, by omega⟩))
 ·rw [if_neg (by decide)] at h1
  have h3 : ¬ (j < 0 ∨ j ≥ (n : Int)) := fun e => h2 ⟨rfl, e⟩
  exact .inr (.inr (.inr ⟨rfl, by omega, by omega, by omega, by omega⟩))
theorem check_of {n : Nat} {k : UInt8} {i j : Int} (h : (k = 4 ∧ 0 ≤ i ∧ i ≤ n) ∨ (k = 5 ∧ 0 ≤ i ∧ i < n) ∨ (k = 6 ∧ 0 ≤ i ∧ i < n) ∨ (k = 7 ∧ 0 ≤ i ∧ i < n ∧ 0 ≤ j ∧ j < n)) : checkL n k i j = 0 := by
 unfold checkL
 rcases h with ⟨rfl, h1, h2⟩ | ⟨rfl, h1, h2⟩ | ⟨rfl, h1, h2⟩ | ⟨rfl, h1, h2, h3, h4⟩
 ·rw [if_neg (by decide), if_neg (by rw [if_pos rfl]; omega), if_neg (fun e => absurd e.1 (by decide))]
 ·rw [if_neg (by decide), if_neg (by rw [if_neg (by decide)]; omega), if_neg (fun e => absurd e.1 (by decide))]
 ·rw [if_neg (by decide), if_neg (by rw [if_neg (by decide)]; omega), if_neg (fun e => absurd e.1 (by decide))]
 ·rw [if_neg (by decide), if_neg (by rw [if_neg (by decide)]; omega), if_neg (fun e => by have := e.2; omega)]
theorem do_F {α : Type} (l : List α) (c : Cm α) (h : checkL l.length c.k c.i c.j = 0) : ∃ l', doL l c = some l' ∧ (∀ k, Fn l' k = doF (Fn l) c k) ∧ (l'.length : Int) = l.length + dlen c.k := by
 obtain ⟨ck, ci, cj, cx⟩ := c
 simp only at h
 have h0 := check_ok h
 rcases h0 with ⟨rfl, h1, h2⟩ | ⟨rfl, h1, h2⟩ | ⟨rfl, h1, h2⟩ | ⟨rfl, h1, h2, h3, h4⟩
 ·refine ⟨_, by simp only [doL, h, if_true]; rfl, fun k => ?_, by simp [dlen]; omega⟩
  obtain ⟨i, rfl⟩ : ∃ i : Nat, ci = i := ⟨ci.toNat, by omega⟩
  simp only [Fn, doF, isNew, src, Int.toNat_natCast]
  by_cases hk : 0 ≤ k
  ·obtain ⟨m, rfl⟩ : ∃ m : Nat, k = m := ⟨k.toNat, by omega⟩
   rw [ins_get l i cx (by omega)]
   by_cases c1 : m < i
   ·simp [c1, show ¬ (m : Int) = i from by omega]
   ·by_cases c2 : m = i
    ·simp [c2]
    ·simp [c1, show ¬ (m : Int) = i from by omega, show (1 : Int) ≤ (m : Int) from by omega, show ((m : Int) - 1).toNat = m - 1 from by omega, c2]
  ·have c1 : k < i := by omega
   simp [hk, c1, show ¬ k = i from by omega]
 ·refine ⟨_, by simp only [doL, h, if_true]; rfl, fun k => ?_, by rw [List.length_eraseIdx_of_lt (show ci.toNat < l.length from by omega)]; simp [dlen]; omega⟩
  obtain ⟨i, rfl⟩ : ∃ i : Nat, ci = i := ⟨ci.toNat, by omega⟩
  simp only [Fn, doF, isNew, src, Int.toNat_natCast]
  by_cases hk : 0 ≤ k
  ·obtain ⟨m, rfl⟩ : ∃ m : Nat, k = m := ⟨k.toNat, by omega⟩
   rw [List.getElem?_eraseIdx]
   by_cases c1 : m < i
   ·simp [c1]
   ·simp [c1, show ((m : Int) + 1).toNat = m + 1 from by omega, show (0 : Int) ≤ (m : Int) + 1 from by omega]
  ·have c1 : k < i := by omega
   simp [hk, c1]
 ·refine ⟨_, by simp only [doL, h, if_true]; rfl, fun k => ?_, by simp [dlen]⟩
  obtain ⟨i, rfl⟩ : ∃ i : Nat, ci = i := ⟨ci.toNat, by omega⟩
  simp only [Fn, doF, isNew, src, Int.toNat_natCast]
  by_cases hk : 0 ≤ k
  ·obtain ⟨m, rfl⟩ : ∃ m : Nat, k = m := ⟨k.toNat, by omega⟩
   rw [Int.toNat_natCast, List.getElem?_set]
   by_cases c2 : m = i
   ·subst c2; simp [show m < l.length from by omega]
   ·simp [c2, show ¬ i = m from fun e => c2 e.symm, show ¬ (m : Int) = i from by omega]
  ·simp [hk, show ¬ k = i from by omega]
 ·obtain ⟨i, rfl⟩ : ∃ i : Nat, ci = i := ⟨ci.toNat, by omega⟩
  obtain ⟨j, rfl⟩ : ∃ j : Nat, cj = j := ⟨cj.toNat, by omega⟩
  have hi : i < l.length := by omega
  have hel : (l.eraseIdx i).length = l.length - 1 := List.length_eraseIdx_of_lt hi
  have hdo : doL l ⟨7, i, j, cx⟩ = some ((l.eraseIdx i).take j ++ l[i] :: (l.eraseIdx i).drop j) := by
   simp only [doL, h, if_true, Int.toNat_natCast]
   rw [List.getElem?_eq_getElem hi]; rfl
  refine ⟨_, hdo, fun k => ?_, by rw [List.length_append, List.length_cons, List.length_take, List.length_drop, hel]; simp [dlen]; omega⟩
  simp only [Fn, doF, isNew, src]
  by_cases hk : 0 ≤ k
  ·obtain ⟨m, rfl⟩ : ∃ m : Nat, k = m := ⟨k.toNat, by omega⟩
   rw [Int.toNat_natCast, ins_get _ j _ (by omega)]
   by_cases c1 : m < j
   ·rw [if_pos c1, List.getElem?_eraseIdx]
    by_cases c2 : m < i
    ·simp [c1, c2, show ¬ (m : Int) = j from by omega]
    ·simp [c1, c2, show ¬ (m : Int) = j from by omega, show ((m : Int) + 1).toNat = m + 1 from by omega, show (0 : Int) ≤ (m : Int) + 1 from by omega]
   ·by_cases c2 : m = j
    ·simp [c2, hi]
    ·rw [if_neg c1, if_neg c2, List.getElem?_eraseIdx]
     by_cases c3 : m - 1 < i
     ·simp [c1, c2, c3, show ¬ (m : Int) = j from by omega, show (m : Int) - 1 < i from by omega, show (0 : Int) ≤ (m : Int) - 1 from by omega, show ((m : Int) - 1).toNat = m - 1 from by omega, show (1 : Int) ≤ m from by omega]
     ·simp [c1, c2, c3, show ¬ (m : Int) = j from by omega, show ¬ (m : Int) - 1 < i from by omega, show m - 1 + 1 = m from by omega]
  ·have c1 : k < j := by omega
   have c2 : k < i := by omega
   simp [hk, c1, c2, show ¬ k = j from by omega]
theorem own_setV {w : World} {base : Nat} {T : TypeId} {S S2 : BS} {g cap : Nat} {xs : List V} {i : Nat} {a b c d e : Value} {x : V} (h : Own EVal w base T S (.slice (some ⟨g, 0, none⟩) xs.length cap) xs) (hi : i < xs.length)
  (hx : VAt w S2 (.agg #[a, b, c, d, e]) x) (hS : ¬ S g) (hS2 : ¬ S2 g) : Own EVal (set5 w g (i * 5) a b c d e) base T (fun q => S q ∨ S2 q) (.slice (some ⟨g, 0, none⟩) xs.length cap) (xs.set i x) := by
 obtain ⟨cur, hb, _, hblk, hcap, hcm, hsz, hc⟩ := own_cells2 h
 have e5 : EVal.size = 5 := rfl
 obtain ⟨cur', hb', hl'⟩ := set5_blk hblk (i * 5) a b c d e (by rw [e5] at hsz; omega)
 have hk := set5_keep w g (i * 5) a b c d e
 exact own_set EVal.ok hc hb hcap hcm hsz hi hk hb' hl' (EVal.ok.keep hx.rd hk fun k hk e => hS2 (e ▸ hk)) hS
theorem own_or {w : World} {base : Nat} {S : BS} {v : Value} {xs : List V} (h : Own EVal w base TVAL (fun k => S k ∨ S k) v xs) : Own EVal w base TVAL S v xs := h.more EVal.ok fun _ _ h => h.elim id id
theorem without_ok (xs : List V) (S : BS) (A : Option Addr) (n c i : Nat) (w : World) (hl : Sl EVal w S (.slice A n c) xs) (hi : i < xs.length) (hn : xs.length ≤ 100000) :
  Calls Tryd.prog 91 #[.slice A n c, .int .i64 i] w fun e w' => ∃ v, e = .returned v ∧ Own EVal w' w.heap.size TVAL (fun k => S k ∧ k < w.heap.size) v (xs.eraseIdx i) ∧ Ext w w' := by
 have hl := hl.more EVal.ok (S' := fun k => S k ∧ k < w.heap.size) fun k h1 h2 => ⟨h2, h1⟩
 have hI : IntKind.i64.wrap ((i : Int) + 1) = ((i + 1 : Nat) : Int) := by rw [IntWalk.i64_in _ (by omega)]; omega
 obtain ⟨r1, f1⟩ := front_fact (P := Tryd.prog) EVal.ok ty_val hl (b := (i : Int)) rfl (by omega)
 obtain ⟨A2, r2, f2⟩ := tail_fact (P := Tryd.prog) EVal.ok ty_val hl (a := (i : Int) + 1) (lo := i + 1) (by omega) (by omega)
 have HF1 := hid f1
 have HF2 := hid f2
 have HN := hid hn
 have HI := hid hi
 have hi9 : i < 100000 := by omega
 have ht1 : (xs.take i).length = i := by rw [List.length_take]; omega
 have ht2 : (xs.drop (i + 1)).length = xs.length - (i + 1) := by rw [List.length_drop]
 rw [List.eraseIdx_eq_take_drop_succ]
 generalize xs.take i = ta at *
 generalize xs.drop (i + 1) = tb at *
 have HT1 := hid ht1
 have HT2 := hid ht2
 clear hl f1 f2 hi hn ht1 ht2
 go_enter Tryd.func91, Tryd.ntmps91
 obtain ⟨d1, hr1, hd1⟩ := HF1.out
 obtain ⟨d2, hr2, hd2⟩ := HF2.out
 have HR1 := hid hr1
 have HD1 := hid hd1
 have HR2 := hid hr2
 have HD2 := hid hd2
 clear hr1 hd1 hr2 hd2
 go_wp2_with (at_builtin; refine wpList_own_append2 (S := fun k => S k ∧ k < w.heap.size) (ys := ta) _ rfl (.tmp 6) (.tmp 9) EVal.ok ty_val rfl rfl rfl (Own.nil w w.heap.size _ _) HR1.out HD1.out ?c1 ?c2 ?c3 ?c4 ?_)
 case c1 =>
  intro g hg
  have hg : (Value.slice none 0 0).ownBlock = some g := hg
  cases hg
 case c2 => rw [HT1.out]; simp; omega
 case c3 => rw [HT1.out]; simp [maxLen]; omega
 case c4 => exact Nat.le_refl _
 intro v1 w1 hown hk _
 obtain ⟨A3, c3, rfl, hl3, hc3⟩ := hown.shape
 have hk1 : Ext w w1 := hk.mono fun k _ e => by
  have e : (Value.slice none 0 0).ownBlock = some k := e
  cases e
 have HO1 : Hid (Own EVal w1 w.heap.size TVAL (fun k => S k ∧ k < w.heap.size) (.slice A3 ta.length c3) ta) := hid (by first | exact hown | exact own_or hown)
 have HK1 := hid hk1
 have HRb := hid (HR2.out.keep hk1 fun _ _ => id)
 have HDb := hid (HD2.out.keep EVal.ok hk1 fun _ _ => id)
 clear hown hk hk1
 go_wp2_with (at_builtin; refine wpList_own_append2 (ys := tb) _ rfl (.tmp 11) (.tmp 15) EVal.ok ty_val rfl rfl rfl HO1.out HRb.out HDb.out ?d1 ?d2 ?d3 ?d4 ?_)
 case d1 => intro g hg; have := HO1.out.lt hg; exact ⟨fun h => by omega, fun h => by omega⟩
 case d2 => have := HT1.out; have := HT2.out; have := HN.out; have := HI.out; (try simp only [List.nil_append]); omega
 case d3 => have := HT1.out; have := HT2.out; have := HN.out; have := HI.out; (try simp only [List.nil_append]); simp only [maxLen]; omega
 case d4 => exact HK1.out.size
 intro v2 w2 hown hk _
 obtain ⟨A4, c4, rfl, hl4, hc4⟩ := hown.shape
 have HO2 : Hid (Own EVal w2 w.heap.size TVAL (fun k => S k ∧ k < w.heap.size) (.slice A4 (ta ++ tb).length c4) (ta ++ tb)) := hid (by first | exact hown | exact own_or hown)
 have HK2 := hid (HK1.out.trans hk fun k hk e => by have := (HO1.out.lt e).1; omega)
 clear hown hk
 go_wp2
 go_ret
 exact ⟨_, rfl, HO2.out, HK2.out⟩
theorem with_ok (xs : List V) (x : V) (S : BS) (A : Option Addr) (n c i : Nat) (y0 y1 y2 y3 y4 : Value) (w : World) (hl : Sl EVal w S (.slice A n c) xs) (hx : EVal.rd w S [y0, y1, y2, y3, y4] x) (hi : i ≤ xs.length) (hn : xs.length ≤ 100000) :
  Calls Tryd.prog 90 #[.slice A n c, .int .i64 i, .agg #[y0, y1, y2, y3, y4]] w fun e w' => ∃ v, e = .returned v ∧ Own EVal w' w.heap.size TVAL (fun k => S k ∧ k < w.heap.size) v (xs.take i ++ x :: xs.drop i) ∧ Ext w w' := by
 have hl := hl.more EVal.ok (S' := fun k => S k ∧ k < w.heap.size) fun k h1 h2 => ⟨h2, h1⟩
 have hx := EVal.ok.more hx (S' := fun k => S k ∧ k < w.heap.size) fun k h1 h2 => ⟨h2, h1⟩
 obtain ⟨B1, b1, B2, b2, hy⟩ : ∃ B1 b1 B2 b2, (#[y0, y1, y2, y3, y4] : Array Value) = (vC x B1 b1 B2 b2) := by
  obtain ⟨B1, _, b1, B2, _, b2, e, _⟩ := EVal_cells hx
  exact ⟨B1, b1, B2, b2, by rw [← Array.toList_inj]; exact e⟩
 obtain ⟨rfl, rfl, rfl, rfl, rfl⟩ : y0 = U8 x.kind ∧ y1 = .int .i64 x.n ∧ y2 = .string x.s ∧ y3 = .slice B1 x.l.length b1 ∧ y4 = .slice B2 x.o.length b2 := by simpa using hy
 obtain ⟨r1, f1⟩ := front_fact (P := Tryd.prog) EVal.ok ty_val hl (b := (i : Int)) rfl (by omega)
 obtain ⟨A2, r2, f2⟩ := tail_fact (P := Tryd.prog) EVal.ok ty_val hl (a := (i : Int)) (lo := i) (by omega) (by omega)
 have hE0 : Ext w (w.alloc (.cells (vC x B1 b1 B2 b2) TVAL)) := (Keep.refl _ _).alloc _
 have hb0 : Blk (w.alloc (.cells (vC x B1 b1 B2 b2) TVAL)) w.heap.size TVAL (vC x B1 b1 B2 b2) := Blk.new _ _ _
 have HX := hid (EVal.ok.keep hx hE0 fun _ _ h => h)
 have HF1 := hid (f1.ext EVal.ok hE0)
 have HF2 := hid (f2.ext EVal.ok hE0)
 have HE0 := hid hE0
 have HB0 := hid hb0
 have HN := hid hn
 have HI := hid hi
 have hi9 : i ≤ 100000 := by omega
 have ht1 : (xs.take i).length = i := by rw [List.length_take]; omega
 have ht2 : (xs.drop i).length = xs.length - i := by rw [List.length_drop]
 generalize xs.take i = ta at *
 generalize xs.drop i = tb at *
 have HT1 := hid ht1
 have HT2 := hid ht2
 clear hl hx f1 f2 hi hn ht1 ht2 hy hE0 hb0
 go_enter Tryd.func90, Tryd.ntmps90
 obtain ⟨d1, hr1, hd1⟩ := HF1.out
 obtain ⟨d2, hr2, hd2⟩ := HF2.out
 have HR1 := hid hr1
 have HD1 := hid hd1
 have HR2 := hid hr2
 have HD2 := hid hd2
 clear hr1 hd1 hr2 hd2
 go_wp2_with (at_builtin; refine wpList_own_append2 (S := fun k => S k ∧ k < w.heap.size) (ys := ta) _ rfl (.tmp 8) (.tmp 11) EVal.ok ty_val rfl rfl rfl (Own.nil _ w.heap.size _ _) HR1.out HD1.out ?c1 ?c2 ?c3 ?c4 ?_)
 case c1 =>
  intro g hg
  have hg : (Value.slice none 0 0).ownBlock = some g := hg
  cases hg
 case c2 => rw [HT1.out]; simp; omega
 case c3 => rw [HT1.out]; simp [maxLen]; omega
 case c4 => exact HE0.out.size
 intro v1 w1 hown hk _
 obtain ⟨A3, c3, rfl, hl3, hc3⟩ := hown.shape
 have hk1 : Ext (w.alloc (.cells (vC x B1 b1 B2 b2) TVAL)) w1 := hk.mono fun k _ e => by
  have e : (Value.slice none 0 0).ownBlock = some k := e
  cases e
 have HO1 : Hid (Own EVal w1 w.heap.size TVAL (fun k => S k ∧ k < w.heap.size) (.slice A3 ta.length c3) ta) := hid (by first | exact hown | exact own_or hown)
 have HK1 := hid hk1
 have HRb := hid (HR2.out.keep hk1 fun _ _ => id)
 have HDb := hid (HD2.out.keep EVal.ok hk1 fun _ _ => id)
 have HXb := hid (EVal.ok.keep HX.out hk1 fun _ _ h => h)
 have hb1 := HB0.out.keep hk1 id
 obtain ⟨q0, q1, q2, q3, q4⟩ := sq5 hb1
 have hw1 : w.heap.size ≤ w1.heap.size := by have := HE0.out.size; have := hk1.size; omega
 have HS1 := hid (show w.heap.size < w1.heap.size from hb1.lt)
 clear hown hk hk1 hb1
 have HOb := hid (HO1.out.ext EVal.ok ((Keep.refl (fun _ => False) w1).alloc (.cells (vC x B1 b1 B2 b2) TVAL)))
 have HRx := hid (RowS.new (w := w1) (t := TVAL) (sz := 5) (n := 1) (cs := [U8 x.kind, .int .i64 x.n, .string x.s, .slice B1 x.l.length b1, .slice B2 x.o.length b2]) rfl (by simp [maxLen]) (0, 0))
 have HDx := hid (Cells.single (EVal.ok.keep HXb.out ((Keep.refl (fun _ => False) w1).alloc (.cells (vC x B1 b1 B2 b2) TVAL)) fun _ _ h => h))
 go_wp2_with (at_builtin; refine wpList_own_append2 (ys := [x]) _ rfl (.tmp 13) (.tmp 15) EVal.ok ty_val rfl rfl rfl HOb.out HRx.out HDx.out ?d1 ?d2 ?d3 ?d4 ?_)
 case d1 => intro g hg; have := HO1.out.lt hg; exact ⟨fun h => by omega, fun h => by omega⟩
 case d2 => have := HT1.out; simp only [List.length_singleton]; omega
 case d3 => have := HT1.out; simp only [List.length_singleton, maxLen]; omega
 case d4 => rw [World.size_alloc]; omega
 intro v2 w2 hown hk _
 obtain ⟨A4, c4, rfl, hl4, hc4⟩ := hown.shape
 have hk2 : Keep (fun k => (Value.slice A3 ta.length c3).ownBlock = some k) w1 w2 := (Keep.alloc (Keep.refl (fun k => (Value.slice A3 ta.length c3).ownBlock = some k) w1) _).trans hk fun k _ e => e
 have HO2 : Hid (Own EVal w2 w.heap.size TVAL (fun k => S k ∧ k < w.heap.size) (.slice A4 (ta ++ [x]).length c4) (ta ++ [x])) := hid (by first | exact hown | exact own_or hown)
 have hz2 := hk2.size
 have HK2 := hid (show Ext w w2 from (HE0.out.ext HK1.out).trans hk2 fun k hk e => by have := (HO1.out.lt e).1; omega)
 have HRc := hid (HRb.out.keep hk2 fun k hs e => by have := (HO1.out.lt e).1; have := hs.2; omega)
 have HDc := hid (HDb.out.keep EVal.ok hk2 fun k hs e => by have := (HO1.out.lt e).1; have := hs.2; omega)
 clear hown hk hk2 HOb HRx HDx HXb HRb HDb HO1 q0 q1 q2 q3 q4
 go_wp2_with (at_builtin; refine wpList_own_append2 (ys := tb) _ rfl (.tmp 17) (.tmp 20) EVal.ok ty_val rfl rfl rfl HO2.out HRc.out HDc.out ?e1 ?e2 ?e3 ?e4 ?_)
 case e1 => intro g hg; have := HO2.out.lt hg; exact ⟨fun h => by omega, fun h => by omega⟩
 case e2 => have := HT1.out; have := HT2.out; have := HN.out; have := HI.out; rw [List.length_append, List.length_singleton]; omega
 case e3 => have := HT1.out; have := HT2.out; have := HN.out; have := HI.out; rw [List.length_append, List.length_singleton]; simp only [maxLen]; omega
 case e4 => omega
 intro v3 w3 hown hk _
 obtain ⟨A5, c5, rfl, hl5, hc5⟩ := hown.shape
 have HO3 : Hid (Own EVal w3 w.heap.size TVAL (fun k => S k ∧ k < w.heap.size) (.slice A5 (ta ++ x :: tb).length c5) (ta ++ x :: tb)) := hid (by first | exact hown | exact own_or hown)
 have HK3 := hid (show Ext w w3 from HK2.out.trans hk fun k hk e => by
  have e' : (Value.slice A4 (ta ++ [x]).length c4).ownBlock = some k := by rw [List.length_append]; exact e
  have := (HO2.out.lt e').1; omega)
 clear hown hk
 go_wp2
 go_ret
 exact ⟨_, rfl, HO3.out, HK3.out⟩
theorem rknown_any (k : UInt8) (p key nn v0 v1 v2 v3 v4 s : Value) (i j : Int) (w : World) :
  Calls Tryd.prog 97 #[cmpV (U8 k) p key i j nn v0 v1 v2 v3 v4 s] w fun e w' => e = .returned (.bool (knownL k)) ∧ Ext w w' := by
 rcases kind_cases k with rfl | rfl | rfl | rfl | ⟨h0, h4, h5, h6, h7⟩
 all_goals
  go_enter Tryd.func97, Tryd.ntmps97
  go_wp2
  go_ret
  exact ⟨by first | rfl | (rw [h0]; rfl), (Keep.refl _ _).alloc _⟩
theorem tri (a b : Int) : (a < b ∧ (a == b) = false ∧ (b == a) = false) ∨ (a = b) ∨ (b < a ∧ (a == b) = false ∧ (b == a) = false ∧ ¬ a < b) := by
 rcases Int.lt_trichotomy a b with h | h | h
 ·exact .inl ⟨h, by simp; omega, by simp; omega⟩
 ·exact .inr (.inl h)
 ·exact .inr (.inr ⟨h, by simp; omega, by simp; omega, by omega⟩)
abbrev aC (k : UInt8) (i j : Int) (p key nn v0 v1 v2 v3 v4 s : Value) : Array Value := #[U8 k, p, key, .int .i64 i, .int .i64 j, nn, v0, v1, v2, v3, v4, s]
theorem rcheck_zero (n : Nat) (k : UInt8) (p key nn v0 v1 v2 v3 v4 s : Value) (i j : Int) (w : World) (hn : n ≤ 1000000000000) (hck : checkL n k i j = 0) :
  Calls Tryd.prog 89 #[.int .i64 n, cmpV (U8 k) p key i j nn v0 v1 v2 v3 v4 s] w fun e w' => e = .returned (.int .i64 (checkL n k i j)) ∧ Ext w w' := by
 have hA : Blk (w.alloc (.cells (aC k i j p key nn v0 v1 v2 v3 v4 s) 58)) w.heap.size 58 (aC k i j p key nn v0 v1 v2 v3 v4 s) := Blk.new _ _ _
 have hE1 : Ext w (w.alloc (.cells (aC k i j p key nn v0 v1 v2 v3 v4 s) 58)) := (Keep.refl _ _).alloc _
 have HA := hid hA
 have HE1 := hid hE1
 have HN := hid hn
 have CK := hid hck
 clear hA hE1 hn
 have hi0 : ¬ i < 0 := by rcases check_ok hck with h | h | h | h <;> omega
 have hc : ((k = 4 ∨ k = 5 ∨ k = 6 ∨ k = 7) ∧ i < n ∧ (k = 7 → ¬ j < 0 ∧ ¬ j ≥ n)) ∨ (k = 4 ∧ i = n) := by
  rcases check_ok hck with ⟨h, h1, h2⟩ | ⟨h, h1, h2⟩ | ⟨h, h1, h2⟩ | ⟨h, h1, h2, h3, h4⟩
  ·rcases (show i < n ∨ ¬ i < n from by omega) with h3 | h3
   ·exact .inl ⟨.inl h, h3, fun e => by rw [h] at e; exact absurd e (by decide)⟩
   ·exact .inr ⟨h, by omega⟩
  ·exact .inl ⟨.inr (.inl h), h2, fun e => by rw [h] at e; exact absurd e (by decide)⟩
  ·exact .inl ⟨.inr (.inr (.inl h)), h2, fun e => by rw [h] at e; exact absurd e (by decide)⟩
  ·exact .inl ⟨.inr (.inr (.inr h)), h2, fun _ => ⟨by omega, by omega⟩⟩
 clear hck
 rcases hc with ⟨hk, hlt, hj⟩ | ⟨rfl, t1⟩
 ·obtain ⟨t1, t2, t4⟩ : i < (n : Int) ∧ (i == (n : Int)) = false ∧ ((n : Int) == i) = false := by rcases tri i n with h | h | h <;> first | exact h | omega
  clear hlt
  rcases hk with rfl | rfl | rfl | rfl
  case' inr.inr.inr => obtain ⟨hj0, hjn⟩ := hj rfl
  all_goals
   clear hj
   go_enter Tryd.func89, Tryd.ntmps89
   go_wp2_with fail
   refine (rknown_any _ _ _ _ _ _ _ _ _ _ _ _ _).mono ?_
   rintro e w1 ⟨rfl, hT⟩
   have hA1 := HA.out.keep hT id
   have q0 := hA1.cell 0
   have q3 := hA1.cell 3
   have q4 := hA1.cell 4
   simp at q0 q3 q4
   have HT := hid (HE1.out.ext hT)
   clear hA1 hT
   go_wp2
   go_ret
   exact ⟨congrArg (fun z => Ending.returned (.int .i64 z)) (Eq.symm CK.out), HT.out⟩
 ·subst t1
  have hnn : ((n : Int) == n) = true := by simp
  go_enter Tryd.func89, Tryd.ntmps89
  go_wp2_with fail
  refine (rknown_any _ _ _ _ _ _ _ _ _ _ _ _ _).mono ?_
  rintro e w1 ⟨rfl, hT⟩
  have hA1 := HA.out.keep hT id
  have q0 := hA1.cell 0
  have q3 := hA1.cell 3
  have q4 := hA1.cell 4
  simp at q0 q3 q4
  have HT := hid (HE1.out.ext hT)
  clear hA1 hT
  go_wp2
  go_ret
  exact ⟨congrArg (fun z => Ending.returned (.int .i64 z)) (Eq.symm CK.out), HT.out⟩
def RDoIs (w : World) (ys : List V) (e : Ending) (w' : World) : Prop := ∃ A c, e = .returned (.tuple #[.slice A ys.length c, .int .i64 0]) ∧ Sl EVal w' (fun q => w.heap.size ≤ q) (.slice A ys.length c) ys ∧ Ext w w'
theorem run_field_l (a b c e : Value) (A : Option Addr) (n m : Nat) (w : World) : (Instr.field TVAL (.agg #[a, b, c, .slice A n m, e]) 3).run Tryd.prog w = .ok (.slice A n m) w := by kernel_rfl
set_option maxRecDepth 100000 in
theorem rdo5_4 (xs ys : List V) (S S2 : BS) (lv t : Value) (p : List St) (key s : ByteArray) (i j n : Int) (xk : UInt8) (xn : Int) (xt : ByteArray) (xl : List V) (xo : List F) (w : World) (hl : Sl EVal w S lv xs) (hcc : CAt w S2 t ⟨4, p, key, i, j, n, (V.mk xk xn xt xl xo), s⟩) (hf : (V.mk xk xn xt xl xo).size ≤ 1000000) (hn : xs.length ≤ 100000) (hzs : V.sizes xs ≤ 900000) (hd : doL xs ⟨4, i, j, (V.mk xk xn xt xl xo)⟩ = some ys) :
  Calls Tryd.prog 73 #[lv, t] w (RDoIs w ys) := by
 obtain ⟨pv, lv2, ov2, rfl, g1, g2, g3⟩ := hcc
 obtain ⟨Ap, cp, rfl, _⟩ := g1.shape
 obtain ⟨Al, cl, rfl, _⟩ := g2.shape
 obtain ⟨Ao, co, rfl, _⟩ := g3.shape
 simp only at g1 g2 g3
 have hck : checkL xs.length 4 i j = 0 := by
  by_cases hk : checkL xs.length 4 i j = 0
  ·exact hk
  ·unfold doL at hd; rw [if_neg hk] at hd; cases hd
 have hck2 := check_ok hck
 have hb : Blk (w.alloc (.cells (cpCells ⟨4, p, key, i, j, n, (V.mk xk xn xt xl xo), s⟩ (.slice Ap p.length cp) (.slice Al xl.length cl) (.slice Ao xo.length co)) TCMP)) w.heap.size TCMP (cpCells ⟨4, p, key, i, j, n, (V.mk xk xn xt xl xo), s⟩ (.slice Ap p.length cp) (.slice Al xl.length cl) (.slice Ao xo.length co)) := Blk.new _ _ _
 have hE1 : Ext w (w.alloc (.cells (cpCells ⟨4, p, key, i, j, n, (V.mk xk xn xt xl xo), s⟩ (.slice Ap p.length cp) (.slice Al xl.length cl) (.slice Ao xo.length co)) TCMP)) := (Keep.refl _ _).alloc _
 obtain ⟨A, c, rfl, hlc, hcm⟩ := hl.shape
 have HB := hid hb
 have HE := hid hE1
 have HL := hid hl
 have HF := hid hf
 have HZS := hid hzs
 have HXV := hid (show VAt w S2 (.agg #[U8 xk, .int .i64 xn, .string xt, .slice Al xl.length cl, .slice Ao xo.length co]) (V.mk xk xn xt xl xo) from ⟨_, _, rfl, g2, g3⟩)
 have HN := hid hn
 have HCK := hid hck
 have HC2 := hid hck2
 have HD := hid hd
 clear hzs g1 g2 g3 hb hE1 hl hf hn hck hck2 hd hcm
 simp only [cC, cpCells]
 go_enter Tryd.func73, Tryd.ntmps73
 go_wp2_with fail
 change Calls _ _ _ (w.alloc (.cells (cpCells ⟨4, p, key, i, j, n, (V.mk xk xn xt xl xo), s⟩ (.slice Ap p.length cp) (.slice Al xl.length cl) (.slice Ao xo.length co)) TCMP)) _
 generalize (w.alloc (.cells (cpCells ⟨4, p, key, i, j, n, (V.mk xk xn xt xl xo), s⟩ (.slice Ap p.length cp) (.slice Al xl.length cl) (.slice Ao xo.length co)) TCMP)) = w0 at *
 refine (rcheck_zero xs.length 4 _ _ _ _ _ _ _ _ _ i j w0 (by have := HN.out; omega) HCK.out).mono ?_
 rintro e w1 ⟨rfl, hT⟩
 rw [HCK.out]
 have hb := HB.out.keep hT id
 have HL1 := hid (HL.out.ext EVal.ok (HE.out.ext hT))
 replace HE := hid (HE.out.ext hT)
 replace HB := hid hb
 have b0 := hb.cell 0
 have b1 := hb.cell 1
 have b2 := hb.cell 2
 have b3 := hb.cell 3
 have b4 := hb.cell 4
 have b5 := hb.cell 5
 have b6 := hb.cell 6
 have b7 := hb.cell 7
 have b8 := hb.cell 8
 have b9 := hb.cell 9
 have b10 := hb.cell 10
 have b11 := hb.cell 11
 simp [cpCells] at b0 b1 b2 b3 b4 b5 b6 b7 b8 b9 b10 b11
 clear hb hT HL
 go_wp2_with fail
 refine (rcopy_any 1000000 (.mk 0 0 ⟨#[]⟩ xs []) (by rw [V.size_eq]; simp only [V.l, V.o, F.sizes]; have := HZS.out; omega) (Nat.le_refl _) _ S w1 ⟨_, _, rfl, HL1.out, Sl.nil _ _⟩).mono ?_
 rintro e w2 ⟨v2, ov2, rfl, ho2, hoo2, hne2, hE2⟩
 obtain ⟨A2, c2, rfl, hl2, hc2⟩ := ho2.shape
 obtain ⟨A2o, c2o, rfl, _⟩ := hoo2.shape
 clear hoo2 hne2
 have HXV2 := hid (HXV.out.ext (HE.out.ext hE2))
 simp only [V.l, V.kind, V.n, V.s, V.o] at hl2 ho2 ⊢
 have HO := hid ho2
 have hz2 := hE2.size
 have HZ := hid (show w.heap.size ≤ w1.heap.size from HE.out.size)
 replace HE := hid (HE.out.ext hE2)
 replace b0 := sqw hE2 b0
 replace b1 := sqw hE2 b1
 replace b2 := sqw hE2 b2
 replace b3 := sqw hE2 b3
 replace b4 := sqw hE2 b4
 replace b5 := sqw hE2 b5
 replace b6 := sqw hE2 b6
 replace b7 := sqw hE2 b7
 replace b8 := sqw hE2 b8
 replace b9 := sqw hE2 b9
 replace b10 := sqw hE2 b10
 replace b11 := sqw hE2 b11
 clear ho2 hE2 HL1
 go_wp2_with fail
 simp only [run_field_l]
 go_wp2_with fail
 refine (rcopy_any 1000000 (V.mk xk xn xt xl xo) HF.out (Nat.le_refl _) _ S2 w2 HXV2.out).mono ?_
 rintro e w3 hcp
 obtain ⟨u3, e3, hva3, hE3⟩ := hcp.at_
 obtain ⟨lv3, ov3, e4, k1, k2⟩ := hva3
 subst e4 e3
 obtain ⟨A3, c3, rfl, _⟩ := k1.shape
 obtain ⟨B3, d3, rfl, _⟩ := k2.shape
 have HVX := hid (show VAt w3 (fun k => w2.heap.size ≤ k) (.agg #[U8 xk, .int .i64 xn, .string xt, .slice A3 xl.length c3, .slice B3 xo.length d3]) (V.mk xk xn xt xl xo) from ⟨_, _, rfl, k1, k2⟩)
 clear hcp k1 k2
 have hE4 : Ext w2 (w3.alloc (.cells #[U8 xk, .int .i64 xn, .string xt, .slice A3 xl.length c3, .slice B3 xo.length d3] TVAL)) := hE3.alloc _
 have HO4 := hid (HO.out.ext EVal.ok hE4)
 have HO3 := hid (HO.out.ext EVal.ok hE3)
 have hlb : w.heap.size < w3.heap.size := by have := lt_of_cell b0; have := hE3.size; simp only at *; omega
 replace b0 := sqw hE3 b0
 replace b1 := sqw hE3 b1
 replace b2 := sqw hE3 b2
 replace b3 := sqw hE3 b3
 replace b4 := sqw hE3 b4
 replace b5 := sqw hE3 b5
 replace b6 := sqw hE3 b6
 replace b7 := sqw hE3 b7
 replace b8 := sqw hE3 b8
 replace b9 := sqw hE3 b9
 replace b10 := sqw hE3 b10
 replace b11 := sqw hE3 b11
 have HE3 := hid (HE.out.ext hE3)
 replace HE := hid (HE.out.ext hE4)
 clear hE3 hE4 HO
 obtain ⟨a, rfl, ha⟩ : ∃ a : Nat, i = a ∧ a ≤ xs.length := by
  rcases HC2.out with ⟨_, h1, h2⟩ | ⟨h, _⟩ | ⟨h, _⟩ | ⟨h, _⟩
  ·exact ⟨i.toNat, by omega, by omega⟩
  all_goals exact absurd h (by decide)
 have hys : (xs.take a ++ (V.mk xk xn xt xl xo) :: xs.drop a) = ys := by
  have h := HD.out
  unfold doL at h
  rw [if_pos HCK.out] at h
  simpa using h
 have HW := hid (with_ok xs (V.mk xk xn xt xl xo) (fun q => w.heap.size ≤ q) A2 xs.length c2 a _ _ _ _ _ _ (by have := (HO4.out.sl EVal.ok).more EVal.ok (S' := fun q => w.heap.size ≤ q) (fun k _ h => by have := HZ.out; rcases h with h | h; (have := h.1; omega); (have := (HO4.out.lt h).1; omega)); exact this) (EVal.ok.more (EVal.ok.keep HVX.out.rd ((Keep.refl (fun _ => False) w3).alloc _) fun _ _ h => h) fun k _ h => by have := HZ.out; have := hz2; omega) ha HN.out)
 rw [hys] at HW
 clear hys
 clear HO3 HO4
 go_wp2_with (go_at_call 90; refine HW.out.mono ?_; rintro e w5 ⟨v5, rfl, ho5, hE5⟩; obtain ⟨A5, c5, rfl, hl5, hc5⟩ := ho5.shape; have HO5 := hid ho5; have HE5 := hid hE5; clear ho5 hE5)
 go_ret2
 exact ⟨A5, c5, rfl, (HO5.out.sl EVal.ok).more EVal.ok fun k _ h => h.elim (fun h => h.1) fun h => Nat.le_trans HE.out.size (HO5.out.lt h).1, HE.out.ext HE5.out⟩
set_option maxRecDepth 100000 in
theorem rdo5_5 (xs ys : List V) (S S2 : BS) (lv t : Value) (p : List St) (key s : ByteArray) (i j n : Int) (xk : UInt8) (xn : Int) (xt : ByteArray) (xl : List V) (xo : List F) (w : World) (hl : Sl EVal w S lv xs) (hcc : CAt w S2 t ⟨5, p, key, i, j, n, (V.mk xk xn xt xl xo), s⟩) (hf : (V.mk xk xn xt xl xo).size ≤ 1000000) (hn : xs.length ≤ 100000) (hzs : V.sizes xs ≤ 900000) (hd : doL xs ⟨5, i, j, (V.mk xk xn xt xl xo)⟩ = some ys) :
  Calls Tryd.prog 73 #[lv, t] w (RDoIs w ys) := by
 obtain ⟨pv, lv2, ov2, rfl, g1, g2, g3⟩ := hcc
 obtain ⟨Ap, cp, rfl, _⟩ := g1.shape
 obtain ⟨Al, cl, rfl, _⟩ := g2.shape
 obtain ⟨Ao, co, rfl, _⟩ := g3.shape
 simp only at g1 g2 g3
 have hck : checkL xs.length 5 i j = 0 := by
  by_cases hk : checkL xs.length 5 i j = 0
  ·exact hk
  ·unfold doL at hd; rw [if_neg hk] at hd; cases hd
 have hck2 := check_ok hck
 have hb : Blk (w.alloc (.cells (cpCells ⟨5, p, key, i, j, n, (V.mk xk xn xt xl xo), s⟩ (.slice Ap p.length cp) (.slice Al xl.length cl) (.slice Ao xo.length co)) TCMP)) w.heap.size TCMP (cpCells ⟨5, p, key, i, j, n, (V.mk xk xn xt xl xo), s⟩ (.slice Ap p.length cp) (.slice Al xl.length cl) (.slice Ao xo.length co)) := Blk.new _ _ _
 have hE1 : Ext w (w.alloc (.cells (cpCells ⟨5, p, key, i, j, n, (V.mk xk xn xt xl xo), s⟩ (.slice Ap p.length cp) (.slice Al xl.length cl) (.slice Ao xo.length co)) TCMP)) := (Keep.refl _ _).alloc _
 obtain ⟨A, c, rfl, hlc, hcm⟩ := hl.shape
 have HB := hid hb
 have HE := hid hE1
 have HL := hid hl
 have HF := hid hf
 have HZS := hid hzs
 have HXV := hid (show VAt w S2 (.agg #[U8 xk, .int .i64 xn, .string xt, .slice Al xl.length cl, .slice Ao xo.length co]) (V.mk xk xn xt xl xo) from ⟨_, _, rfl, g2, g3⟩)
 have HN := hid hn
 have HCK := hid hck
 have HC2 := hid hck2
 have HD := hid hd
 clear hzs g1 g2 g3 hb hE1 hl hf hn hck hck2 hd hcm
 simp only [cC, cpCells]
 go_enter Tryd.func73, Tryd.ntmps73
 go_wp2_with fail
 change Calls _ _ _ (w.alloc (.cells (cpCells ⟨5, p, key, i, j, n, (V.mk xk xn xt xl xo), s⟩ (.slice Ap p.length cp) (.slice Al xl.length cl) (.slice Ao xo.length co)) TCMP)) _
 generalize (w.alloc (.cells (cpCells ⟨5, p, key, i, j, n, (V.mk xk xn xt xl xo), s⟩ (.slice Ap p.length cp) (.slice Al xl.length cl) (.slice Ao xo.length co)) TCMP)) = w0 at *
 refine (rcheck_zero xs.length 5 _ _ _ _ _ _ _ _ _ i j w0 (by have := HN.out; omega) HCK.out).mono ?_
 rintro e w1 ⟨rfl, hT⟩
 rw [HCK.out]
 have hb := HB.out.keep hT id
 have HL1 := hid (HL.out.ext EVal.ok (HE.out.ext hT))
 replace HE := hid (HE.out.ext hT)
 replace HB := hid hb
 have b0 := hb.cell 0
 have b1 := hb.cell 1
 have b2 := hb.cell 2
 have b3 := hb.cell 3
 have b4 := hb.cell 4
 have b5 := hb.cell 5
 have b6 := hb.cell 6
 have b7 := hb.cell 7
 have b8 := hb.cell 8
 have b9 := hb.cell 9
 have b10 := hb.cell 10
 have b11 := hb.cell 11
 simp [cpCells] at b0 b1 b2 b3 b4 b5 b6 b7 b8 b9 b10 b11
 clear hb hT HL
 go_wp2_with fail
 refine (rcopy_any 1000000 (.mk 0 0 ⟨#[]⟩ xs []) (by rw [V.size_eq]; simp only [V.l, V.o, F.sizes]; have := HZS.out; omega) (Nat.le_refl _) _ S w1 ⟨_, _, rfl, HL1.out, Sl.nil _ _⟩).mono ?_
 rintro e w2 ⟨v2, ov2, rfl, ho2, hoo2, hne2, hE2⟩
 obtain ⟨A2, c2, rfl, hl2, hc2⟩ := ho2.shape
 obtain ⟨A2o, c2o, rfl, _⟩ := hoo2.shape
 clear hoo2 hne2
 have HXV2 := hid (HXV.out.ext (HE.out.ext hE2))
 simp only [V.l, V.kind, V.n, V.s, V.o] at hl2 ho2 ⊢
 have HO := hid ho2
 have hz2 := hE2.size
 have HZ := hid (show w.heap.size ≤ w1.heap.size from HE.out.size)
 replace HE := hid (HE.out.ext hE2)
 replace b0 := sqw hE2 b0
 replace b1 := sqw hE2 b1
 replace b2 := sqw hE2 b2
 replace b3 := sqw hE2 b3
 replace b4 := sqw hE2 b4
 replace b5 := sqw hE2 b5
 replace b6 := sqw hE2 b6
 replace b7 := sqw hE2 b7
 replace b8 := sqw hE2 b8
 replace b9 := sqw hE2 b9
 replace b10 := sqw hE2 b10
 replace b11 := sqw hE2 b11
 clear ho2 hE2 HL1
 go_wp2_with fail
 simp only [run_field_l]
 go_wp2_with fail
 refine (rcopy_any 1000000 (V.mk xk xn xt xl xo) HF.out (Nat.le_refl _) _ S2 w2 HXV2.out).mono ?_
 rintro e w3 hcp
 obtain ⟨u3, e3, hva3, hE3⟩ := hcp.at_
 obtain ⟨lv3, ov3, e4, k1, k2⟩ := hva3
 subst e4 e3
 obtain ⟨A3, c3, rfl, _⟩ := k1.shape
 obtain ⟨B3, d3, rfl, _⟩ := k2.shape
 have HVX := hid (show VAt w3 (fun k => w2.heap.size ≤ k) (.agg #[U8 xk, .int .i64 xn, .string xt, .slice A3 xl.length c3, .slice B3 xo.length d3]) (V.mk xk xn xt xl xo) from ⟨_, _, rfl, k1, k2⟩)
 clear hcp k1 k2
 have hE4 : Ext w2 (w3.alloc (.cells #[U8 xk, .int .i64 xn, .string xt, .slice A3 xl.length c3, .slice B3 xo.length d3] TVAL)) := hE3.alloc _
 have HO4 := hid (HO.out.ext EVal.ok hE4)
 have HO3 := hid (HO.out.ext EVal.ok hE3)
 have hlb : w.heap.size < w3.heap.size := by have := lt_of_cell b0; have := hE3.size; simp only at *; omega
 replace b0 := sqw hE3 b0
 replace b1 := sqw hE3 b1
 replace b2 := sqw hE3 b2
 replace b3 := sqw hE3 b3
 replace b4 := sqw hE3 b4
 replace b5 := sqw hE3 b5
 replace b6 := sqw hE3 b6
 replace b7 := sqw hE3 b7
 replace b8 := sqw hE3 b8
 replace b9 := sqw hE3 b9
 replace b10 := sqw hE3 b10
 replace b11 := sqw hE3 b11
 have HE3 := hid (HE.out.ext hE3)
 replace HE := hid (HE.out.ext hE4)
 clear hE3 hE4 HO
 obtain ⟨a, rfl, ha⟩ : ∃ a : Nat, i = a ∧ a < xs.length := by
  rcases HC2.out with ⟨h, _⟩ | ⟨_, h1, h2⟩ | ⟨h, _⟩ | ⟨h, _⟩
  case inr.inl => exact ⟨i.toNat, by omega, by omega⟩
  all_goals exact absurd h (by decide)
 have hys : xs.eraseIdx a = ys := by
  have h := HD.out
  unfold doL at h
  rw [if_pos HCK.out] at h
  simpa using h
 have HW := hid (without_ok xs (fun q => w.heap.size ≤ q) A2 xs.length c2 a _ (by have := (HO4.out.sl EVal.ok).more EVal.ok (S' := fun q => w.heap.size ≤ q) (fun k _ h => by have := HZ.out; rcases h with h | h; (have := h.1; omega); (have := (HO4.out.lt h).1; omega)); exact this) ha HN.out)
 rw [hys] at HW
 clear hys
 clear HO3 HO4
 go_wp2_with (go_at_call 91; refine HW.out.mono ?_; rintro e w5 ⟨v5, rfl, ho5, hE5⟩; obtain ⟨A5, c5, rfl, hl5, hc5⟩ := ho5.shape; have HO5 := hid ho5; have HE5 := hid hE5; clear ho5 hE5)
 go_ret2
 exact ⟨A5, c5, rfl, (HO5.out.sl EVal.ok).more EVal.ok fun k _ h => h.elim (fun h => h.1) fun h => Nat.le_trans HE.out.size (HO5.out.lt h).1, HE.out.ext HE5.out⟩
end Go.Proofs.YtggkidnlmaindaaDoor
