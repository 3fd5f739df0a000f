/- ProjG: laid together. -/
import Derived.Test.YtggkidnlmaindaaDoorPxB26
import Derived.Test.YtggkidnlmaindaaDoorPxB2
import Derived.Test.YtggkidnlmaindaaDoorPxB14
import Derived.Test.YtggkidnlmaindaaDoorPxB4
import Derived.Test.YtggkidnlmaindaaDoorPxB5
set_option linter.unusedSimpArgs false
set_option linter.unusedVariables false
set_option maxHeartbeats 25600000
set_option maxRecDepth 20000
namespace Go.Proofs.YtggkidnlmaindaaDoor
open Go.RowKit
def amongL (fs : List ByteArray) (k : ByteArray) : Bool := fs.any fun f => k.toList == f.toList
theorem amongL_at {fs : List ByteArray} {k : ByteArray} {i : Nat} (hi : i < fs.length) (h : (k.toList == (fs[i]'hi).toList) = true) : amongL fs k = true :=
 List.any_eq_true.2 ⟨_, List.getElem_mem hi, h⟩
theorem amongL_none {fs : List ByteArray} {k : ByteArray} (h : ∀ i (hi : i < fs.length), (k.toList == (fs[i]'hi).toList) = false) : amongL fs k = false := by
 rw [amongL, List.any_eq_false]
 intro f hf
 obtain ⟨i, hi, rfl⟩ := List.getElem_of_mem hf
 simp [h i hi]
theorem index_str (w : World) (S : BS) (v : Value) (fs : List ByteArray) (k : ByteArray) (h : Sl EStr w S v fs) :
  Calls Tryd.prog 77 #[v, .string k] w fun e w' =>
   ((e = .returned (.int .i64 (-1)) ∧ amongL fs k = false) ∨ ∃ i : Nat, e = .returned (.int .i64 (i : Int)) ∧ amongL fs k = true) ∧ Ext w w' := by
 obtain ⟨A, c, rfl, hlc, hcm⟩ := h.shape
 unfold maxLen at hcm
 have HA := hid h
 generalize hn : fs.length = n at *
 have HN := hid hn
 clear h hn
 go_enter Tryd.func77, Tryd.ntmps77
 go_wp2
 go_loop [8] (fun i => ∃ j : Nat, j ≤ n ∧ i = .int .i64 j ∧ (∀ i (hi : i < fs.length), i < j → (k.toList == (fs[i]'hi).toList) = false)) (fun i => n - (intOf i).toNat)
 case atStart => exact ⟨0, by omega, rfl, fun i _ h => by omega⟩
 case round =>
  obtain ⟨j, hj, rfl, hfl⟩ := hrel
  have HF := hid hfl
  clear hfl
  by_cases hlt : j < n
  ·have hjm : j < fs.length := by rw [HN.out]; exact hlt
   obtain ⟨b1, o1, c0, rfl, _, _, hrd, hcell⟩ := HA.out.at_ EStr.ok hjm
   generalize hm : fs[j]'hjm = m at *
   obtain rfl : c0 = [.string m] := hrd
   have e0 := hcell 0 _ rfl
   have hz : EStr.size = 1 := rfl
   simp only [hz, Nat.mul_one, Nat.add_zero] at e0
   have HM := hid hm
   clear hz hcell hm
   cases hq : (k.toList == m.toList) with
   | true =>
    have HQ := hid hq
    go_wp2
    go_ret
    exact ⟨.inr ⟨⟨j, rfl⟩, amongL_at hjm (by rw [HM.out]; exact HQ.out)⟩, Keep.refl _ _⟩
   | false =>
    have HQ := hid hq
    go_wp2
    go_round
    case rel =>
     refine ⟨j + 1, by omega, by go_num, fun i hi hij => ?_⟩
     rcases Nat.lt_or_ge i j with h | h
     ·exact HF.out i hi h
     ·obtain rfl : i = j := by omega
      rw [HM.out]; exact HQ.out
    case measure => simp [intOf]; omega
  ·have HJ := hid (show j = n by omega)
   go_wp2
   go_ret
   exact ⟨.inl ⟨rfl, amongL_none fun i hi => HF.out i hi (by have := HJ.out; have := HN.out; omega)⟩, Keep.refl _ _⟩
theorem contains_str (w : World) (S : BS) (v : Value) (fs : List ByteArray) (k : ByteArray) (h : Sl EStr w S v fs) :
  Calls Tryd.prog 58 #[v, .string k] w fun e w' => e = .returned (.bool (amongL fs k)) ∧ Ext w w' := by
 have HI := hid (index_str w S v fs k h)
 obtain ⟨A, c, rfl, hlc, hcm⟩ := h.shape
 generalize amongL fs k = r at *
 clear h
 go_enter Tryd.func58, Tryd.ntmps58
 go_wp2_with fail
 refine HI.out.mono ?_
 rintro e w2 ⟨⟨rfl, rfl⟩ | ⟨k, rfl, rfl⟩, hE⟩
 ·have HE := hid hE
  clear hE
  go_wp2
  go_ret
  exact ⟨rfl, HE.out⟩
 ·have HE := hid hE
  have hk : ¬ ((k : Int) < 0) := by omega
  have hk2 : decide ((0 : Int) ≤ k) = true := by simp
  clear hE
  go_wp2
  go_ret
  exact ⟨by first | rfl | simp, HE.out⟩
theorem among_ok (w : World) (S : BS) (v : Value) (fs : List ByteArray) (k : ByteArray) (h : Sl EStr w S v fs) :
  Calls Tryd.prog 36 #[v, .string k] w fun e w' => e = .returned (.bool (amongL fs k)) ∧ Ext w w' := by
 have HI := hid (contains_str w S v fs k h)
 obtain ⟨A, c, rfl, hlc, hcm⟩ := h.shape
 generalize amongL fs k = r at *
 clear h
 go_enter Tryd.func36, Tryd.ntmps36
 go_wp2_with fail
 refine HI.out.mono ?_
 rintro e w2 ⟨rfl, hE⟩
 have HE := hid hE
 clear hE
 go_wp2
 go_ret
 exact ⟨rfl, HE.out⟩
abbrev leB (a b : ByteArray) : Bool := Op.bytesLess a.toList b.toList || (a.toList == b.toList)
def badAt (fs : List ByteArray) (i : Nat) : Bool := match fs[i]? with
 | none => false
 | some f => !Lib.validD f.data.toList || (match i with | 0 => false | k + 1 => match fs[k]? with | none => false | some g => leB f g)
def psnd (fs : List ByteArray) : Bool := !(List.range fs.length).any (badAt fs) && decide (fs.length ≤ 16)
theorem psnd_bad {fs : List ByteArray} {i : Nat} (hi : i < fs.length) (h : badAt fs i = true) : psnd fs = false := by
 have : (List.range fs.length).any (badAt fs) = true := List.any_eq_true.2 ⟨i, List.mem_range.2 hi, h⟩
 rw [psnd, this]; rfl
theorem psnd_good {fs : List ByteArray} (h : ∀ i, i < fs.length → badAt fs i = false) : psnd fs = decide (fs.length ≤ 16) := by
 have : (List.range fs.length).any (badAt fs) = false := by
  rw [List.any_eq_false]; intro i hi; simp [h i (List.mem_range.1 hi)]
 rw [psnd, this]; rfl
theorem badAt_zero {fs : List ByteArray} {f : ByteArray} (h : fs[0]? = some f) : badAt fs 0 = !Lib.validD f.data.toList := by
 simp [badAt, h]
theorem badAt_succ {fs : List ByteArray} {i : Nat} {f g : ByteArray} (h : fs[i + 1]? = some f) (hg : fs[i]? = some g) : badAt fs (i + 1) = (!Lib.validD f.data.toList || leB f g) := by
 simp [badAt, h, hg]
theorem badAt_inv {fs : List ByteArray} {i : Nat} {f : ByteArray} (h : fs[i]? = some f) (hv : Lib.validD f.data.toList = false) : badAt fs i = true := by
 simp [badAt, h, hv]
theorem psound_ok (w : World) (S : BS) (v : Value) (fs : List ByteArray) (h : Sl EStr w S v fs) (hz : ∀ f ∈ fs, f.size ≤ 9223372036854775807) (hV : ValAny w) :
  Calls Tryd.prog 14 #[v] w fun e w' => e = .returned (.bool (psnd fs)) ∧ Ext w w' := by
 obtain ⟨A, c, rfl, hlc, hcm⟩ := h.shape
 unfold maxLen at hcm
 have HA := hid h
 have HZ := hid hz
 have HV := hid hV
 generalize hn : fs.length = n at *
 have HN := hid hn
 clear h hn hz hV
 go_enter Tryd.func14, Tryd.ntmps14
 go_wp2
 go_loopw [7] (fun i wr => ∃ j : Nat, j ≤ n ∧ i = .int .i64 j ∧ (∀ i, i < j → badAt fs i = false) ∧ Ext w wr) (fun i _ => n - (intOf i).toNat)
 case atStart => exact ⟨0, by omega, rfl, fun i h => by omega, Keep.refl _ _⟩
 case round =>
  obtain ⟨j, hj, rfl, hfl, hEj⟩ := hrel
  have HF := hid hfl
  have HEJ := hid hEj
  clear hfl
  by_cases hlt : j < n
  ·have hjm : j < fs.length := by rw [HN.out]; exact hlt
   obtain ⟨b1, o1, c0, rfl, _, _, hrd, hcell⟩ := (HA.out.ext EStr.ok hEj).at_ EStr.ok hjm
   have HM := hid (show fs[j]? = some (fs[j]'hjm) from List.getElem?_eq_getElem hjm)
   have HMZ := hid (HZ.out _ (List.getElem_mem hjm))
   generalize fs[j]'hjm = m at *
   obtain rfl : c0 = [.string m] := hrd
   have e0 := hcell 0 _ rfl
   have hz : EStr.size = 1 := rfl
   simp only [hz, Nat.mul_one, Nat.add_zero] at e0
   clear hz hcell
   obtain ⟨q, hq⟩ : ∃ q : Bool, Lib.validD m.data.toList = q := ⟨_, rfl⟩
   go_wp2_with fail
   refine (HV.out m HMZ.out _ HEJ.out).mono ?_
   rintro e w2 ⟨rfl, hE2⟩
   rw [hq]
   have HE := hid (hEj.ext hE2)
   have HQ := hid hq
   clear hEj hq e0
   cases q with
   | false =>
    clear hE2
    go_wp2
    go_ret
    exact ⟨by rw [psnd_bad hjm (badAt_inv HM.out HQ.out)]; rfl, HE.out⟩
   | true =>
    cases j with
    | zero =>
     clear hE2
     go_wp2
     go_roundw
     case rel =>
      refine ⟨1, by omega, by go_num, fun i hi => ?_, HE.out⟩
      obtain rfl : i = 0 := by omega
      rw [badAt_zero HM.out, HQ.out]; rfl
     case measure => simp [intOf]; omega
    | succ i =>
     have him : i < fs.length := by omega
     obtain ⟨b2, o2, c2, e2, _, _, hrd2, hcell2⟩ := (HA.out.ext EStr.ok HE.out).at_ EStr.ok him
     injection e2 with e2
     injection e2 with e2 e3 _
     subst e2; subst e3
     have HM2 := hid (show fs[i]? = some (fs[i]'him) from List.getElem?_eq_getElem him)
     generalize fs[i]'him = m2 at *
     obtain rfl : c2 = [.string m2] := hrd2
     have e0 := hcell2 0 _ rfl
     have hz : EStr.size = 1 := rfl
     simp only [hz, Nat.mul_one, Nat.add_zero] at e0
     clear hz hcell2 hE2
     have hi1 : ((i + 1 : Nat) : Int) - 1 = i := by omega
     have hi2 : (i : Int) + 1 - 1 = i := by omega
     have hi3 : (0 : Int) < (i : Int) + 1 := by omega
     cases hc : (leB m m2) with
     | true =>
      have HC := hid hc
      go_wp2
      go_ret
      exact ⟨by rw [psnd_bad hjm (by rw [badAt_succ HM.out HM2.out, HC.out]; simp)]; rfl, HE.out⟩
     | false =>
      have HC := hid hc
      go_wp2
      go_roundw
      case rel =>
       refine ⟨i + 1 + 1, by omega, by go_num, fun k hk => ?_, HE.out⟩
       rcases Nat.lt_or_ge k (i + 1) with h | h
       ·exact HF.out k h
       ·obtain rfl : k = i + 1 := by omega
        rw [badAt_succ HM.out HM2.out, HC.out, HQ.out]; rfl
      case measure => simp [intOf]; omega
  ·have HJ := hid (show j = n by omega)
   have HE := hid hEj
   clear hEj
   by_cases hp : n ≤ 16
   ·have hpX : (n : Int) ≤ 16 := by omega
    go_wp2
    go_ret
    exact ⟨by rw [psnd_good fun i hi => HF.out i (by have := HJ.out; have := HN.out; omega), HN.out, decide_eq_true hp]; rfl, HE.out⟩
   ·have hpX : ¬ (n : Int) ≤ 16 := by omega
    go_wp2
    go_ret
    exact ⟨by rw [psnd_good fun i hi => HF.out i (by have := HJ.out; have := HN.out; omega), HN.out, decide_eq_false hp]; rfl, HE.out⟩
abbrev set6 (w : World) (g o : Nat) (a b c d e f : Value) : World := (set5 w g o a b c d e).setCell ⟨g, o + 5, none⟩ f
theorem set6_keep (w : World) (g o : Nat) (a b c d e f : Value) : Keep (· = g) w (set6 w g o a b c d e f) := (set5_keep w g o a b c d e).set1 (o + 5) f
theorem list_six {α : Type} (l : List α) (o : Nat) (a b c d e f : α) (h : o + 6 ≤ l.length) : (l.take o ++ [a, b, c, d, e] ++ l.drop (o + 5)).set (o + 5) f = l.take o ++ [a, b, c, d, e, f] ++ l.drop (o + 6) := by
 have h1 : (l.take o ++ [a, b, c, d, e]).length = o + 5 := by simp; omega
 rw [List.set_append_right _ _ (by omega), h1, Nat.sub_self]
 rw [List.drop_eq_getElem_cons (show o + 5 < l.length by omega), List.set_cons_zero]
 simp only [List.append_assoc, List.cons_append, List.nil_append]
theorem drop_take_app {α : Type} (A l : List α) (k M N : Nat) (hA : A.length = k) (hk : k ≤ M) : ((A ++ l.drop k).take N).drop M = (l.take N).drop M := by
 apply List.ext_getElem?
 intro t
 simp only [List.getElem?_drop, List.getElem?_take]
 by_cases h : M + t < N
 ·rw [if_pos h, if_pos h, List.getElem?_append_right (by omega), List.getElem?_drop, hA]
  congr 1; omega
 ·rw [if_neg h, if_neg h]
theorem set6_blk {w : World} {g : Nat} {T : TypeId} {cur : Array Value} (h : Blk w g T cur) (o : Nat) (a b c d e f : Value) (ho : o + 6 ≤ cur.size) :
  ∃ cur', Blk (set6 w g o a b c d e f) g T cur' ∧ cur'.toList = cur.toList.take o ++ [a, b, c, d, e, f] ++ cur.toList.drop (o + 6) := by
 obtain ⟨cur', h1, h2⟩ := set5_blk h o a b c d e (by omega)
 refine ⟨_, h1.set_ (o + 5) f, ?_⟩
 rw [Array.toList_setIfInBounds, h2]
 exact list_six _ _ _ _ _ _ _ _ (by simpa using ho)
def Sq (w : World) (base : Nat) (S : BS) (g cap : Nat) (xs : List F) (p : F → Bool) (i j : Nat) : Prop :=
 ∃ cur, base ≤ g ∧ Blk w g TFIELD cur ∧ xs.length ≤ cap ∧ cap ≤ maxLen ∧ cur.size = cap * 6 ∧ i < j ∧ j ≤ xs.length ∧ i = ((xs.take j).filter p).length ∧
  Cells EField w S (cur.toList.take (i * 6)) ((xs.take j).filter p) ∧ Cells EField w S ((cur.toList.take (xs.length * 6)).drop (j * 6)) (xs.drop j)
section
variable {w w' : World} {base : Nat} {S : BS} {g cap : Nat} {xs : List F} {p : F → Bool} {i j : Nat}
theorem Sq.keep {Fr : Nat → Prop} (h : Sq w base S g cap xs p i j) (hk : Keep Fr w w') (hF : ∀ k, S k → ¬ Fr k) (hg : ¬ Fr g) : Sq w' base S g cap xs p i j := by
 obtain ⟨cur, h1, h2, h3, h4, h5, h6, h7, h8, h9, h10⟩ := h
 exact ⟨cur, h1, h2.keep hk hg, h3, h4, h5, h6, h7, h8, h9.keep EField.ok hk hF, h10.keep EField.ok hk hF⟩
theorem Sq.ext (h : Sq w base S g cap xs p i j) (hk : Ext w w') : Sq w' base S g cap xs p i j := h.keep hk (fun _ _ x => x) (fun x => x)
theorem Sq.frozen (h : Sq w base S g cap xs p i j) (k : Nat) : w.frozen? ⟨g, k, none⟩ = false := by
 obtain ⟨cur, h1, h2, _⟩ := h
 exact h2.frozen k
theorem Sq.start {n : Nat} (h : Own EField w base TFIELD S (.slice (some ⟨g, 0, none⟩) n cap) xs) (hi : i < xs.length) (ha : ∀ k (hk : k < xs.length), k < i → p xs[k] = true) (hb : p (xs[i]'hi) = false) : Sq w base S g cap xs p i (i + 1) := by
 rcases h with ⟨h, _⟩ | ⟨g', cap', cur, e, h1, h2, h3, h4, h5, h6⟩
 ·cases h
 ·injection e with e1 e2 e3
  injection e1 with e1
  injection e1 with e1 _ _
  subst e1 e2 e3
  have hf : (xs.take (i + 1)).filter p = xs.take i := by
   rw [List.take_succ_eq_append_getElem hi, List.filter_append]
   have : (xs.take i).filter p = xs.take i := List.filter_eq_self.2 fun f hf => by
    obtain ⟨k, hk, rfl⟩ := List.getElem_of_mem hf
    rw [List.getElem_take]
    have hk' : k < i := by simp at hk; omega
    exact ha k (by omega) hk'
   rw [this]; simp [hb]
  have hz : EField.size = 6 := rfl
  rw [hz] at h5 h6
  have s1 := (Cells.split EField.ok i (by omega) h6).1
  have s2 := (Cells.split EField.ok (i + 1) (by omega) h6).2
  rw [hz, List.take_take, Nat.min_eq_left (Nat.mul_le_mul_right 6 (by omega))] at s1
  refine ⟨cur, h1, h2, h3, h4, h5, by omega, by omega, by rw [hf]; simp; omega, by rw [hf]; exact s1, s2⟩
theorem Sq.at_ (h : Sq w base S g cap xs p i j) (hj : j < xs.length) : ∃ lv ov, (∃ A c, lv = .slice A (xs[j]'hj).v.l.length c) ∧ (∃ A c, ov = .slice A (xs[j]'hj).v.o.length c) ∧ EField.rd w S [.string (xs[j]'hj).key, U8 (xs[j]'hj).v.kind, .int .i64 (xs[j]'hj).v.n, .string (xs[j]'hj).v.s, lv, ov] (xs[j]'hj) ∧
  ∀ t u, [Value.string (xs[j]'hj).key, U8 (xs[j]'hj).v.kind, .int .i64 (xs[j]'hj).v.n, .string (xs[j]'hj).v.s, lv, ov][t]? = some u → w.cell? ⟨g, j * 6 + t, none⟩ = some u := by
 obtain ⟨cur, h1, h2, h3, h4, h5, h6, h7, h8, h9, h10⟩ := h
 rw [List.drop_eq_getElem_cons hj] at h10
 obtain ⟨c0, c1, e, hr, _⟩ := h10
 obtain ⟨lv, ov, rfl, ha, hb, _⟩ := EField_cells hr
 refine ⟨lv, ov, ha, hb, hr, fun t u hu => ?_⟩
 have ht : t < 6 := by
  rcases Nat.lt_or_ge t 6 with h | h
  ·exact h
  ·rw [List.getElem?_eq_none (by simpa using h)] at hu; cases hu
 have h11 := congrArg (·[t]?) e
 simp only [List.getElem?_drop] at h11
 rw [List.getElem?_append_left (by simpa using ht), hu, List.getElem?_take_of_lt (by omega)] at h11
 rw [h2.cell]
 simpa using h11
theorem Sq.skip (h : Sq w base S g cap xs p i j) (hj : j < xs.length) (hp : p (xs[j]'hj) = false) : Sq w base S g cap xs p i (j + 1) := by
 obtain ⟨cur, h1, h2, h3, h4, h5, h6, h7, h8, h9, h10⟩ := h
 have hf : (xs.take (j + 1)).filter p = (xs.take j).filter p := by
  rw [List.take_succ_eq_append_getElem hj, List.filter_append]; simp [hp]
 rw [List.drop_eq_getElem_cons hj] at h10
 obtain ⟨c0, c1, e, hr, h11⟩ := h10
 have hl := EField.ok.len hr
 have hz : EField.size = 6 := rfl
 refine ⟨cur, h1, h2, h3, h4, h5, by omega, by omega, by rw [hf]; exact h8, by rw [hf]; exact h9, ?_⟩
 have : (cur.toList.take (xs.length * 6)).drop ((j + 1) * 6) = c1 := by
  rw [Nat.succ_mul, ← List.drop_drop, e, List.drop_append_of_le_length (by omega), List.drop_eq_nil_of_le (by omega)]; rfl
 rw [this]; exact h11
theorem Sq.put {a b c d e f : Value} (h : Sq w base S g cap xs p i j) (hj : j < xs.length) (hp : p (xs[j]'hj) = true) (hE : Ext w w') (hS : ¬ S g) (hr : EField.rd w S [a, b, c, d, e, f] (xs[j]'hj)) : Sq (set6 w' g (i * 6) a b c d e f) base S g cap xs p (i + 1) (j + 1) := by
 obtain ⟨cur, h1, h2, h3, h4, h5, h6, h7, h8, h9, h10⟩ := h
 have hk : Keep (· = g) w (set6 w' g (i * 6) a b c d e f) := ((Keep.refl (· = g) w).ext hE).trans (set6_keep w' g (i * 6) a b c d e f) fun _ _ e => e
 have hl0 : cur.toList.length = cap * 6 := by simpa using h5
 obtain ⟨cur', hb', he'⟩ := set6_blk (h2.keep hE id) (i * 6) a b c d e f (by rw [h5]; omega)
 have hf : (xs.take (j + 1)).filter p = (xs.take j).filter p ++ [xs[j]'hj] := by
  rw [List.take_succ_eq_append_getElem hj, List.filter_append]; simp [hp]
 rw [List.drop_eq_getElem_cons hj] at h10
 obtain ⟨c0, c1, ec, hr0, h11⟩ := h10
 have hl := EField.ok.len hr0
 have hz : EField.size = 6 := rfl
 have hS' : ∀ k, S k → ¬ k = g := fun k hk e => hS (e ▸ hk)
 have hlt : (cur.toList.take (i * 6)).length = i * 6 := by rw [List.length_take, hl0]; omega
 refine ⟨cur', h1, hb', h3, h4, ?_, by omega, by omega, by rw [hf, List.length_append, ← h8]; rfl, ?_, ?_⟩
 ·have := congrArg List.length he'
  simp only [List.length_append, List.length_drop, hlt, hl0, List.length_cons, List.length_nil, Array.length_toList] at this
  omega
 ·rw [hf, he', show (i + 1) * 6 = (cur.toList.take (i * 6) ++ [a, b, c, d, e, f]).length by rw [List.length_append, hlt]; simp; omega, List.take_left]
  exact (h9.keep EField.ok hk hS').append (.single (EField.ok.keep hr hk hS'))
 ·have h12 : (cur'.toList.take (xs.length * 6)).drop ((j + 1) * 6) = c1 := by
   have e1 : (cur.toList.take (xs.length * 6)).drop ((j + 1) * 6) = c1 := by
    rw [Nat.succ_mul, ← List.drop_drop, ec, List.drop_append_of_le_length (by omega), List.drop_eq_nil_of_le (by omega)]; rfl
   rw [← e1, he']
   exact drop_take_app _ _ _ _ _ (by rw [List.length_append, hlt]; rfl) (by omega)
  rw [h12]; exact h11.keep EField.ok hk hS'
end
def goes (fs : List ByteArray) (f : F) : Bool := !amongL fs f.key
def Stay (fs : List ByteArray) (o : List F) (k : Nat) : Prop := ∀ i (hi : i < o.length), i < k → goes fs (o[i]'hi) = false
def GoesAt (fs : List ByteArray) (o : List F) (k : Nat) : Prop := ∃ hk : k < o.length, goes fs (o[k]'hk) = true
abbrev cloF (b : Nat) : Value := .func (.func 35) #[] #[.pointer (some ⟨b, 0, none⟩)]
theorem val1_ok (w : World) (b : Nat) (fs : List ByteArray) (fv : Value) (S : BS) (key : ByteArray) (c1 c2 c3 c4 c5 : Value) (h : w.cell? ⟨b, 0, none⟩ = some fv) (hs : Sl EStr w S fv fs) :
  Calls Tryd.prog 35 #[.agg #[.string key, c1, c2, c3, c4, c5], .pointer (some ⟨b, 0, none⟩)] w fun e w' => e = .returned (.bool (!amongL fs key)) ∧ Ext w w' := by
 obtain ⟨A, c, rfl, hlc, hcm⟩ := hs.shape
 have hlt := lt_of_cell h
 have hE : Ext w (w.alloc (.cells #[.string key, c1, c2, c3, c4, c5] TFIELD)) := (Keep.refl _ _).alloc _
 have HS := hid (hs.ext EStr.ok hE)
 have HE := hid hE
 have hb := (hE.cell hlt id).trans h
 go_enter Tryd.func35, Tryd.ntmps35
 clear hs hE
 go_wp2_with fail
 refine (among_ok _ S _ fs key HS.out).mono ?_
 rintro e w2 ⟨rfl, hE2⟩
 have HE2 := hid (HE.out.ext hE2)
 clear hE2
 go_wp2
 go_ret
 exact ⟨rfl, HE2.out⟩
theorem pindex_field (w : World) (S : BS) (v : Value) (o : List F) (b : Nat) (fs : List ByteArray) (fv : Value) (S2 : BS) (h : Sl EField w S v o) (hb : w.cell? ⟨b, 0, none⟩ = some fv) (hs : Sl EStr w S2 fv fs) :
  Calls Tryd.prog 57 #[v, cloF b] w fun e w' =>
   ((e = .returned (.int .i64 (-1)) ∧ Stay fs o o.length) ∨ ∃ k : Nat, e = .returned (.int .i64 (k : Int)) ∧ Stay fs o k ∧ GoesAt fs o k) ∧ Ext w w' := by
 obtain ⟨A, c, rfl, hlc, hcm⟩ := h.shape
 unfold maxLen at hcm
 have hblt := lt_of_cell hb
 have HA := hid h
 have HS := hid hs
 generalize hn : o.length = n at *
 have HN := hid hn
 clear h hn hs
 go_enter Tryd.func57, Tryd.ntmps57
 go_wp2
 go_loopw [8] (fun i wr => ∃ j : Nat, j ≤ n ∧ i = .int .i64 j ∧ Stay fs o j ∧ Ext w wr) (fun i _ => n - (intOf i).toNat)
 case atStart => exact ⟨0, by omega, rfl, fun i _ h => by omega, Keep.refl _ _⟩
 case round =>
  obtain ⟨j, hj, rfl, hfl, hEj⟩ := hrel
  have HF := hid hfl
  clear hfl
  by_cases hlt : j < n
  ·have hjm : j < o.length := by rw [HN.out]; exact hlt
   obtain ⟨b1, o1, c0, rfl, _, _, hrd, hcell⟩ := (HA.out.ext EField.ok hEj).at_ EField.ok hjm
   generalize hm : o[j]'hjm = m at *
   obtain ⟨lv, ov, rfl, ⟨A1, d1, rfl⟩, ⟨A2, d2, rfl⟩, _⟩ := EField_cells hrd
   have e0 := hcell 0 _ rfl
   have e1 := hcell 1 _ rfl
   have e2 := hcell 2 _ rfl
   have e3 := hcell 3 _ rfl
   have e4 := hcell 4 _ rfl
   have e5 := hcell 5 _ rfl
   have hz : EField.size = 6 := rfl
   simp only [hz, Nat.add_zero] at e0 e1 e2 e3 e4 e5
   have hbj := (hEj.cell hblt id).trans hb
   have HM := hid hm
   have HSJ := hid (HS.out.ext EStr.ok hEj)
   clear hz hcell hrd hm
   obtain ⟨p, hp⟩ : ∃ p : Bool, goes fs m = p := ⟨_, rfl⟩
   go_wp2_with fail
   refine (val1_ok _ _ fs _ _ _ _ _ _ _ _ hbj HSJ.out).mono ?_
   rintro e w2 ⟨rfl, hE2⟩
   rw [show (!amongL fs m.key) = p from hp]
   have HE := hid (hEj.ext hE2)
   have HP := hid hp
   clear hE2 hEj hp
   cases p with
   | true =>
    go_wp2
    go_ret
    exact ⟨.inr ⟨j, rfl, HF.out, hjm, by rw [HM.out]; exact HP.out⟩, HE.out⟩
   | false =>
    go_wp2
    go_roundw
    case rel =>
     refine ⟨j + 1, by omega, by go_num, fun i hi hij => ?_, HE.out⟩
     rcases Nat.lt_or_ge i j with h | h
     ·exact HF.out i hi h
     ·obtain rfl : i = j := by omega
      rw [HM.out]; exact HP.out
    case measure => simp [intOf]; omega
  ·obtain rfl : j = n := by omega
   have HE := hid hEj
   clear hEj
   go_wp2
   go_ret
   exact ⟨.inl ⟨rfl, HF.out⟩, HE.out⟩
abbrev zField : Array Value := #[.string ⟨#[]⟩, .int .u8 0, .int .i64 0, .string ⟨#[]⟩, .slice none 0 0, .slice none 0 0]
theorem zero_field (w : World) : (zeroValue TFIELD).run Tryd.prog w = .ok (.agg zField) w := by kernel_rfl
theorem zeroCells_len (m : Nat) : (Builtin.zeroCells zField m).toList.length = m * 6 := by simp [Builtin.zeroCells]
theorem zeroCells_one (m : Nat) : ∀ u ∈ (Builtin.zeroCells zField m).toList, u.oneCell' = true := by
 intro u hu
 simp only [Builtin.zeroCells, Array.toList_map, List.mem_map] at hu
 obtain ⟨i, _, rfl⟩ := hu
 have h : i % 6 < 6 := Nat.mod_lt _ (by omega)
 show (zField[i % 6]!).oneCell' = true
 generalize i % 6 = k at *
 match k, h with
 | 0, _ => rfl
 | 1, _ => rfl
 | 2, _ => rfl
 | 3, _ => rfl
 | 4, _ => rfl
 | 5, _ => rfl
theorem run_clear_fields (w : World) (g o m cap : Nat) (cur : Array Value) (hb : Blk w g TFIELD cur) (ho : o + m * 6 ≤ cur.size) (hm : 0 < m) (ty : TypeId) :
  (Builtin.clear_ #[33] ty #[.slice (some ⟨g, o, none⟩) m cap]).run Tryd.prog w = .ok (.tuple #[]) (w.setRow g (cur.toList.take o ++ (Builtin.zeroCells zField m).toList ++ cur.toList.drop (o + m * 6)).toArray) := by
 have hst := run_storeCells_at Tryd.prog g o TFIELD (Builtin.zeroCells zField m).toList 0 cur w hb (by rw [zeroCells_len]; omega) (zeroCells_one m)
 simp only [Nat.add_zero, zeroCells_len] at hst
 have hzv := zero_field
 obtain ⟨k, rfl⟩ : ∃ k, m = k + 1 := ⟨m - 1, by omega⟩
 simp [Builtin.clear_, run_underlying Tryd.underlying33, hzv, Value.cells, hst]
theorem Sq.cell {w : World} {base : Nat} {S : BS} {g cap : Nat} {xs : List F} {p : F → Bool} {i j : Nat} (h : Sq w base S g cap xs p i j) (t : Nat) (ht : t < 6) : ∃ u, w.cell? ⟨g, i * 6 + t, none⟩ = some u := by
 obtain ⟨cur, h1, h2, h3, h4, h5, h6, h7, _⟩ := h
 have : i * 6 + t < cur.size := by rw [h5]; omega
 exact ⟨cur[i * 6 + t]'this, by rw [h2.cell, Array.getElem?_eq_getElem this]⟩
theorem Sq.done {w : World} {base : Nat} {S : BS} {g cap n : Nat} {xs : List F} {p : F → Bool} {i : Nat} (h : Sq w base S g cap xs p i n) (hn : xs.length = n) (hS : ¬ S g) :
  ∃ cur, Blk w g TFIELD cur ∧ i * 6 + (n - i) * 6 ≤ cur.size ∧ ∀ zs : List Value, zs.length = (n - i) * 6 → Own EField (w.setRow g (cur.toList.take (i * 6) ++ zs ++ cur.toList.drop (i * 6 + (n - i) * 6)).toArray) base TFIELD S (.slice (some ⟨g, 0, none⟩) i cap) (xs.filter p) := by
 obtain ⟨cur, h1, h2, h3, h4, h5, h6, h7, h8, h9, h10⟩ := h
 have hl0 : cur.toList.length = cap * 6 := by simpa using h5
 rw [← hn, List.take_length] at h8 h9
 have hlt : (cur.toList.take (i * 6)).length = i * 6 := by rw [List.length_take, hl0]; omega
 refine ⟨cur, h2, by rw [h5]; omega, fun zs hz => .inr ⟨g, cap, _, by rw [← h8], h1, h2.setRow _, by rw [← h8]; omega, h4, ?_, ?_⟩⟩
 ·have hz6 : EField.size = 6 := rfl
  rw [hz6]
  simp only [List.size_toArray, List.length_append, List.length_drop, hlt, hl0, hz]
  omega
 ·have hz6 : EField.size = 6 := rfl
  rw [← h8, hz6]
  simp only [List.append_assoc]
  rw [List.take_append_of_le_length (Nat.le_of_eq hlt.symm), List.take_of_length_le (Nat.le_of_eq hlt)]
  exact h9.keep EField.ok ((Keep.refl (· = g) w).setRow (fun _ => rfl) _) fun k hk e => hS (e ▸ hk)
def DelIs (w : World) (base : Nat) (S : BS) (v : Value) (ys : List F) (e : Ending) (w' : World) : Prop := ∃ v', e = .returned v' ∧ Own EField w' base TFIELD S v' ys ∧ (∀ q, v'.ownBlock = some q → v.ownBlock = some q) ∧ Keep (fun q => v.ownBlock = some q) w w'
set_option maxRecDepth 100000 in
theorem delfunc_ok (w : World) (base : Nat) (S S2 : BS) (v : Value) (xs : List F) (b : Nat) (fs : List ByteArray) (fv : Value) (h : Own EField w base TFIELD S v xs) (hS : ∀ q, v.ownBlock = some q → ¬ S q ∧ ¬ S2 q ∧ ¬ b = q)
  (hb : w.cell? ⟨b, 0, none⟩ = some fv) (hs : Sl EStr w S2 fv fs) :
  Calls Tryd.prog 34 #[v, cloF b] w (DelIs w base S v (xs.filter fun f => !goes fs f)) := by
 have HI := hid (pindex_field w _ v xs b fs fv S2 (h.sl EField.ok) hb hs)
 have HO := hid h
 have HS := hid hs
 have HB := hid hb
 have HSS := hid hS
 obtain ⟨A, c, rfl, hlc, hcm⟩ := h.shape
 unfold maxLen at hcm
 generalize hn : xs.length = n at *
 have HN := hid hn
 clear h hn hs hb hS
 go_enter Tryd.func34, Tryd.ntmps34
 go_wp2_with fail
 refine HI.out.mono ?_
 rintro e w1 ⟨⟨rfl, hst⟩ | ⟨k, rfl, hst, hk, hgo⟩, hE⟩
 ·have HE := hid hE
  have HST := hid hst
  clear hE hst
  go_wp2
  go_ret
  refine ⟨_, rfl, ?_, fun _ h => h, (Keep.refl _ w).ext HE.out⟩
  have : xs.filter (fun f => !goes fs f) = xs := List.filter_eq_self.2 fun f hf => by
   obtain ⟨i, hi, rfl⟩ := List.getElem_of_mem hf
   rw [HST.out i hi (by have := HN.out; omega)]; rfl
  rw [this]
  exact HO.out.ext EField.ok HE.out
 ·obtain ⟨g, cap, e, hbg, hgl, hlc2, hcm2⟩ := HO.out.form (by omega)
  rw [HN.out] at e
  injection e with e1 e2 e3
  subst e1 e3
  obtain ⟨hS1, hS2, hS3⟩ := HSS.out g rfl
  have hkn : k < n := by have := HN.out; omega
  have HSQ := hid (Sq.start (p := fun f => !goes fs f) (HO.out.ext EField.ok hE) hk (fun i hi h => by rw [hst i hi h]; rfl) (by rw [hgo]; rfl))
  have HE1 := hid (show Keep (· = g) w w1 from (Keep.refl _ w).ext hE)
  have HG1 := hid hS1
  have HG2 := hid hS2
  have HG3 := hid hS3
  have hk1 : ¬ (k : Int) = -1 := by omega
  have hk2 : ((k : Int) == -1) = false := by simp
  clear hst hgo hE hS1 hS2 hS3 hbg hgl hlc2 hcm2 e2
  go_wp2
  go_loopw [5, 6] (fun a y wr => ∃ i j : Nat, a = .int .i64 i ∧ y = .int .i64 j ∧ i < j ∧ j ≤ n ∧ Sq wr base S g c xs (fun f => !goes fs f) i j ∧ Keep (· = g) w wr) (fun _ y _ => n - (intOf y).toNat)
  case atStart => exact ⟨k, k + 1, rfl, by go_num, by omega, by omega, HSQ.out, HE1.out⟩
  case round =>
   obtain ⟨i, j, rfl, rfl, hij, hjn, hsq, hE⟩ := hrel
   have HQ := hid hsq
   have HE := hid hE
   by_cases hlt : j < n
   ·have hjm : j < xs.length := by rw [HN.out]; exact hlt
    obtain ⟨lv, ov, ⟨A1, d1, rfl⟩, ⟨A2, d2, rfl⟩, hrd, hcell⟩ := hsq.at_ hjm
    have HR := hid hrd
    generalize hm : xs[j]'hjm = m at *
    have HM := hid hm
    have e0 := hcell 0 _ rfl
    have e1 := hcell 1 _ rfl
    have e2 := hcell 2 _ rfl
    have e3 := hcell 3 _ rfl
    have e4 := hcell 4 _ rfl
    have e5 := hcell 5 _ rfl
    simp only [Nat.add_zero] at e0
    obtain ⟨W1, hW1⟩ : ∃ W1, wr.alloc (.cells #[.string m.key, U8 m.v.kind, .int .i64 m.v.n, .string m.v.s, .slice A1 m.v.l.length d1, .slice A2 m.v.o.length d2] TFIELD) = W1 := ⟨_, rfl⟩
    have hEx : Ext wr W1 := by rw [← hW1]; exact (Keep.refl _ _).alloc _
    have HX := hid (show Blk W1 wr.heap.size TFIELD #[.string m.key, U8 m.v.kind, .int .i64 m.v.n, .string m.v.s, .slice A1 m.v.l.length d1, .slice A2 m.v.o.length d2] from by rw [← hW1]; exact Blk.new _ _ _)
    have HEX := hid hEx
    have x0 := HX.out.cell 0
    have x1 := HX.out.cell 1
    have x2 := HX.out.cell 2
    have x3 := HX.out.cell 3
    have x4 := HX.out.cell 4
    have x5 := HX.out.cell 5
    simp only [List.getElem?_toArray, List.getElem?_cons_succ, List.getElem?_cons_zero] at x0 x1 x2 x3 x4 x5
    have HBJ := hid ((((HE.out.cell (lt_of_cell HB.out) HG3.out).trans HB.out)))
    have HSJ := hid ((HS.out.keep EStr.ok HE.out fun q hq e => HG2.out (e ▸ hq)).ext EStr.ok hEx)
    have hbj := (hEx.cell (lt_of_cell HBJ.out) id).trans HBJ.out
    obtain ⟨p, hp⟩ : ∃ p : Bool, goes fs m = p := ⟨_, rfl⟩
    have HP := hid hp
    clear hcell hrd hm hsq hE hEx
    go_wp2_with fail
    refine (val1_ok _ _ fs _ _ _ _ _ _ _ _ hbj HSJ.out).mono ?_
    rintro e w2 ⟨rfl, hE2⟩
    rw [show (!amongL fs m.key) = p from hp]
    clear hp e0 e1 e2 e3 e4 e5 hbj hW1
    replace x0 := sqw hE2 x0
    replace x1 := sqw hE2 x1
    replace x2 := sqw hE2 x2
    replace x3 := sqw hE2 x3
    replace x4 := sqw hE2 x4
    replace x5 := sqw hE2 x5
    have HEW := hid (HEX.out.ext hE2)
    have HQ2 := hid (HQ.out.ext HEW.out)
    have HE2 := hid (show Keep (· = g) w w2 from HE.out.ext HEW.out)
    clear hE2
    cases p with
    | true =>
     clear x0 x1 x2 x3 x4 x5
     go_wp2
     go_roundw
     case rel => exact ⟨i, j + 1, rfl, by go_num, by omega, by omega, HQ2.out.skip hjm (by rw [HM.out, HP.out]; rfl), HE2.out⟩
     case measure => simp [intOf]; omega
    | false =>
     have hfz := HQ2.out.frozen
     obtain ⟨u0, y0⟩ := HQ2.out.cell 0 (by omega)
     obtain ⟨u1, y1⟩ := HQ2.out.cell 1 (by omega)
     obtain ⟨u2, y2⟩ := HQ2.out.cell 2 (by omega)
     obtain ⟨u3, y3⟩ := HQ2.out.cell 3 (by omega)
     obtain ⟨u4, y4⟩ := HQ2.out.cell 4 (by omega)
     obtain ⟨u5, y5⟩ := HQ2.out.cell 5 (by omega)
     rw [Nat.add_zero] at y0
     have hin : i < n := by omega
     have hinX : (i : Int) < n := by omega
     go_wp2_with fail
     refine ⟨⟨i + 1, j + 1, rfl, rfl, by omega, by omega, ?_, ?_⟩, by simp [intOf]; omega⟩
     ·exact HQ2.out.put hjm (by rw [HM.out, HP.out]; rfl) (Keep.refl _ _) HG1.out (by rw [HM.out]; exact EField.ok.keep HR.out HEW.out fun _ _ x => x)
     ·exact HE2.out.trans (set6_keep w2 g (i * 6) _ _ _ _ _ _) fun _ _ e => e
   ·obtain rfl : j = n := by omega
    obtain ⟨cur, hbk, hsz, hfin⟩ := hsq.done HN.out HG1.out
    have hrun := run_clear_fields wr g (i * 6) (j - i) (c - i) cur hbk hsz (by omega)
    have hf := hfin _ (zeroCells_len (j - i))
    have hK : Keep (· = g) w (wr.setRow g (cur.toList.take (i * 6) ++ (Builtin.zeroCells zField (j - i)).toList ++ cur.toList.drop (i * 6 + (j - i) * 6)).toArray) := hE.setRow (fun _ => rfl) _
    generalize wr.setRow g (cur.toList.take (i * 6) ++ (Builtin.zeroCells zField (j - i)).toList ++ cur.toList.drop (i * 6 + (j - i) * 6)).toArray = W3 at *
    have HFN := hid hf
    have HK := hid hK
    have hij1 : i ≤ j := by omega
    have hic : i ≤ c := by omega
    have hci : ¬ c = i := by omega
    clear hf hK hfin hbk hsz hsq hE
    go_wp2_with fail
    go_ret
    refine ⟨_, rfl, HFN.out, fun _ h => h, ?_⟩
    have : (fun q => (Value.slice (some ⟨g, 0, none⟩) j c).ownBlock = some q) = (· = g) := by
     funext q
     simp [Value.ownBlock, eq_comm]
    rw [this]
    exact HK.out
end Go.Proofs.YtggkidnlmaindaaDoor
