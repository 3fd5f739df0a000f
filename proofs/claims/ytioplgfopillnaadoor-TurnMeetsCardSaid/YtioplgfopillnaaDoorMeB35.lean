/- SeqD, SeqP, SeqQ7: laid together. -/
import Derived.Test.YtioplgfopillnaaDoorMeB34
set_option linter.unusedSimpArgs false
set_option linter.unusedVariables false
set_option maxHeartbeats 25600000
set_option maxRecDepth 20000
namespace Go.Proofs.YtioplgfopillnaaDoor
open Go.RowKit
def turnL (ak : UInt8) (ai aj : Int) (bk : UInt8) (bi bj : Int) (left : Bool) : Option (Int × Int) :=
 if knownL ak = false then some (ai, aj)
 else if knownL bk = false then some (ai, aj)
 else if ak = 4 then some (gapL ai bk bi bj left, aj)
 else if ak = 7 then moveL ai aj bk bi bj left
 else if ai = bi ∧ bk = 6 then (if ak = 5 ∨ left = true then some (ai, aj) else none)
 else if (atL bk bi bj ai).2 = true then some ((atL bk bi bj ai).1, aj) else none
theorem CompIs.from_ {k p key nn v0 v1 v2 v3 v4 s : Value} {w w1 w' : World} {r : Option (Int × Int)} {e : Ending} (h : CompIs k p key nn v0 v1 v2 v3 v4 s w1 r e w') (hE : Ext w w1) : CompIs k p key nn v0 v1 v2 v3 v4 s w r e w' := by
 obtain ⟨v, rfl, h1, h2⟩ := h
 refine ⟨v, rfl, hE.ext h1, ?_⟩
 cases r with
 | none => exact h2
 | some x => obtain ⟨g, e, hg, hb⟩ := h2; exact ⟨g, e, Nat.le_trans hE.size hg, hb⟩
theorem CompIs.eq_ {k p key nn v0 v1 v2 v3 v4 s : Value} {w w' : World} {r r' : Option (Int × Int)} {e : Ending} (h : CompIs k p key nn v0 v1 v2 v3 v4 s w r' e w') (hr : r = r') : CompIs k p key nn v0 v1 v2 v3 v4 s w r e w' := hr ▸ h
section
variable {ak bk : UInt8} {ai aj bi bj : Int} {left : Bool}
theorem tL1 (h : knownL ak = false) : turnL ak ai aj bk bi bj left = some (ai, aj) := by simp [turnL, h]
theorem tL2 (h : (!knownL bk) = true) : turnL ak ai aj bk bi bj left = some (ai, aj) := by simp at h; simp [turnL, h]
theorem tL3 (h : (!knownL bk) = false) : turnL 4 ai aj bk bi bj left = some (gapL ai bk bi bj left, aj) := by simp at h; simp [turnL, h, show knownL 4 = true from rfl]
theorem tL4 (h : (!knownL bk) = false) : turnL 7 ai aj bk bi bj left = moveL ai aj bk bi bj left := by simp at h; simp [turnL, h, show knownL 7 = true from rfl]
theorem tL5 : turnL 5 ai aj 6 ai bj left = some (ai, aj) := by simp [turnL, show knownL 5 = true from rfl, show knownL 6 = true from rfl]
theorem tL6 (h : left = true) : turnL 6 ai aj 6 ai bj left = some (ai, aj) := by subst h; simp [turnL, show knownL 6 = true from rfl]
theorem tL7 (h : left = false) : turnL 6 ai aj 6 ai bj left = none := by subst h; simp [turnL, show knownL 6 = true from rfl]
theorem tL8 (h : ak = 5 ∨ ak = 6) (hn : ¬ (ai = bi ∧ bk = 6)) (hk : (!knownL bk) = false) (ha : (!(atL bk bi bj ai).2) = false) : turnL ak ai aj bk bi bj left = some ((atL bk bi bj ai).1, aj) := by
 simp at hk ha
 rcases h with rfl | rfl <;> simp only [turnL, hk, ha, if_neg hn, show knownL 5 = true from rfl, show knownL 6 = true from rfl] <;> simp
theorem tL9 (h : ak = 5 ∨ ak = 6) (hn : ¬ (ai = bi ∧ bk = 6)) (hk : (!knownL bk) = false) (ha : (!(atL bk bi bj ai).2) = true) : turnL ak ai aj bk bi bj left = none := by
 simp at hk ha
 rcases h with rfl | rfl <;> simp only [turnL, hk, ha, if_neg hn, show knownL 5 = true from rfl, show knownL 6 = true from rfl] <;> simp
end
theorem turn_any (ak bk : UInt8) (ap akey ann a0 a1 a2 a3 a4 as_ p key nn v0 v1 v2 v3 v4 s : Value) (ai aj bi bj : Int) (left : Bool) (w : World) (hai : Sm ai) (haj : Sm aj) (hbi : Sm bi) (hbj : Sm bj) :
  Calls Tryd.prog 57 #[cmpV (U8 ak) ap akey ai aj ann a0 a1 a2 a3 a4 as_, cmpV (U8 bk) p key bi bj nn v0 v1 v2 v3 v4 s, .bool left] w (CompIs (U8 ak) ap akey ann a0 a1 a2 a3 a4 as_ w (turnL ak ai aj bk bi bj left)) := by
 have hA : Blk ((w.alloc (.cells #[U8 ak, ap, akey, .int .i64 ai, .int .i64 aj, ann, a0, a1, a2, a3, a4, as_] 33)).alloc (.cells #[U8 bk, p, key, .int .i64 bi, .int .i64 bj, nn, v0, v1, v2, v3, v4, s] 33)) w.heap.size 33 #[U8 ak, ap, akey, .int .i64 ai, .int .i64 aj, ann, a0, a1, a2, a3, a4, as_] := (Blk.new _ _ _).alloc _
 have hB : Blk ((w.alloc (.cells #[U8 ak, ap, akey, .int .i64 ai, .int .i64 aj, ann, a0, a1, a2, a3, a4, as_] 33)).alloc (.cells #[U8 bk, p, key, .int .i64 bi, .int .i64 bj, nn, v0, v1, v2, v3, v4, s] 33)) (w.heap.size + 1) 33 #[U8 bk, p, key, .int .i64 bi, .int .i64 bj, nn, v0, v1, v2, v3, v4, s] := by
  have := Blk.new (w.alloc (.cells #[U8 ak, ap, akey, .int .i64 ai, .int .i64 aj, ann, a0, a1, a2, a3, a4, as_] 33)) 33 #[U8 bk, p, key, .int .i64 bi, .int .i64 bj, nn, v0, v1, v2, v3, v4, s]
  rwa [World.size_alloc] at this
 have hE1 : Ext w ((w.alloc (.cells #[U8 ak, ap, akey, .int .i64 ai, .int .i64 aj, ann, a0, a1, a2, a3, a4, as_] 33)).alloc (.cells #[U8 bk, p, key, .int .i64 bi, .int .i64 bj, nn, v0, v1, v2, v3, v4, s] 33)) := ((Keep.refl _ _).alloc _).alloc _
 have HA := hid hA
 have HB := hid hB
 have HT := hid hE1
 have HSA := hid hai
 have HSAJ := hid haj
 have HSB := hid hbi
 have HSBJ := hid hbj
 clear hA hB hE1 hai haj hbi hbj
 have htw : (∃ h : ai = bi, bk = 6) ∨ (∃ h : ai = bi, ((bk.toNat : Int) == 6) = false ∧ bk ≠ 6) ∨ ((ai == bi) = false ∧ ai ≠ bi) := by
  by_cases h : ai = bi
  ·by_cases h6 : bk = 6
   ·exact .inl ⟨h, h6⟩
   ·refine .inr (.inl ⟨h, ?_, h6⟩)
    simp only [beq_eq_false_iff_ne, ne_eq]
    intro e
    apply h6
    apply UInt8.toNat.inj
    simp; omega
  ·exact .inr (.inr ⟨by simpa using h, h⟩)
 have he2 : (bi == bi) = true := by simp
 have HTW := hid (show (ai = bi ∧ bk = 6) ∨ ¬(ai = bi ∧ bk = 6) from Classical.em _)
 rcases htw with ⟨rfl, rfl⟩ | ⟨rfl, hne6, hn6⟩ | ⟨hne, hnn⟩
 all_goals
  rcases kind_cases ak with rfl | rfl | rfl | rfl | ⟨h0, h4, h5, h6, h7⟩
  all_goals
   go_enter Tryd.func57, Tryd.ntmps57
   go_wp2_with (first
    | (go_at_call 81; refine (known_any _ _ _ _ _ _ _ _ _ _ _ _ _).mono ?_; rintro e w1 ⟨rfl, hT⟩; have hA1 := HA.out.keep hT id; have HA1 := hid hA1; have hB1 := HB.out.keep hT id; have HB1 := hid hB1; have qa0 := hA1.cell 0; have qa1 := hA1.cell 1; have qa2 := hA1.cell 2; have qa3 := hA1.cell 3; have qa4 := hA1.cell 4; have qa5 := hA1.cell 5; have qa6 := hA1.cell 6; have qa7 := hA1.cell 7; have qa8 := hA1.cell 8; have qa9 := hA1.cell 9; have qa10 := hA1.cell 10; have qa11 := hA1.cell 11; have qb0 := hB1.cell 0; have qb1 := hB1.cell 1; have qb2 := hB1.cell 2; have qb3 := hB1.cell 3; have qb4 := hB1.cell 4; have qb5 := hB1.cell 5; have qb6 := hB1.cell 6; have qb7 := hB1.cell 7; have qb8 := hB1.cell 8; have qb9 := hB1.cell 9; have qb10 := hB1.cell 10; have qb11 := hB1.cell 11; have f3 := hA1.frozen 3; simp at qa0 qa1 qa2 qa3 qa4 qa5 qa6 qa7 qa8 qa9 qa10 qa11 qb0 qb1 qb2 qb3 qb4 qb5 qb6 qb7 qb8 qb9 qb10 qb11; have HT1 := hid (HT.out.ext hT); clear hT hA1)
    | (go_at_call 81; refine (known_any _ _ _ _ _ _ _ _ _ _ _ _ _).mono ?_; rintro e w2 ⟨rfl, hT⟩; have hA2 := HA1.out.keep hT id; have HA2 := hid hA2; have hB2 := HB1.out.keep hT id; have HB2 := hid hB2; have qa0 := hA2.cell 0; have qa1 := hA2.cell 1; have qa2 := hA2.cell 2; have qa3 := hA2.cell 3; have qa4 := hA2.cell 4; have qa5 := hA2.cell 5; have qa6 := hA2.cell 6; have qa7 := hA2.cell 7; have qa8 := hA2.cell 8; have qa9 := hA2.cell 9; have qa10 := hA2.cell 10; have qa11 := hA2.cell 11; have qb0 := hB2.cell 0; have qb1 := hB2.cell 1; have qb2 := hB2.cell 2; have qb3 := hB2.cell 3; have qb4 := hB2.cell 4; have qb5 := hB2.cell 5; have qb6 := hB2.cell 6; have qb7 := hB2.cell 7; have qb8 := hB2.cell 8; have qb9 := hB2.cell 9; have qb10 := hB2.cell 10; have qb11 := hB2.cell 11; have f3 := hA2.frozen 3; simp at qa0 qa1 qa2 qa3 qa4 qa5 qa6 qa7 qa8 qa9 qa10 qa11 qb0 qb1 qb2 qb3 qb4 qb5 qb6 qb7 qb8 qb9 qb10 qb11; have HT2 := hid (HT1.out.ext hT); clear hT hA2)
    | (go_at_call 82; refine (gap_any _ _ _ _ _ _ _ _ _ _ _ _ _ _ _ HSA.out HSB.out HSBJ.out).mono ?_; rintro e w3 ⟨rfl, hT⟩; have hA3 := HA2.out.keep hT id; have HA3 := hid hA3; have qa0 := hA3.cell 0; have qa1 := hA3.cell 1; have qa2 := hA3.cell 2; have qa3 := hA3.cell 3; have qa4 := hA3.cell 4; have qa5 := hA3.cell 5; have qa6 := hA3.cell 6; have qa7 := hA3.cell 7; have qa8 := hA3.cell 8; have qa9 := hA3.cell 9; have qa10 := hA3.cell 10; have qa11 := hA3.cell 11; have f3 := hA3.frozen 3; simp at qa0 qa1 qa2 qa3 qa4 qa5 qa6 qa7 qa8 qa9 qa10 qa11; have HT3 := hid (HT2.out.ext hT); clear hT hA3)
    | (go_at_call 56; refine (at_any _ _ _ _ _ _ _ _ _ _ _ _ _ _ HSA.out HSB.out HSBJ.out).mono ?_; rintro e w3 ⟨rfl, hT⟩; have hA3 := HA2.out.keep hT id; have HA3 := hid hA3; have qa0 := hA3.cell 0; have qa1 := hA3.cell 1; have qa2 := hA3.cell 2; have qa3 := hA3.cell 3; have qa4 := hA3.cell 4; have qa5 := hA3.cell 5; have qa6 := hA3.cell 6; have qa7 := hA3.cell 7; have qa8 := hA3.cell 8; have qa9 := hA3.cell 9; have qa10 := hA3.cell 10; have qa11 := hA3.cell 11; have f3 := hA3.frozen 3; simp at qa0 qa1 qa2 qa3 qa4 qa5 qa6 qa7 qa8 qa9 qa10 qa11; have HT3 := hid (HT2.out.ext hT); clear hT hA3)
    | (go_at_call 83; refine (move_any _ _ _ _ _ _ _ _ _ _ _ _ _ _ _ _ _ _ _ _ _ _ _ _ _ _ HSA.out HSAJ.out HSB.out HSBJ.out).mono ?_; rintro e w3 ⟨v, rfl, hT, hO⟩; have HO := hid (show CompIs _ _ _ _ _ _ _ _ _ _ _ _ _ _ from ⟨v, rfl, hT, hO⟩); clear hT hO))
  all_goals
   go_ret
   first
    | exact comp_some _ _ _ _ _ _ _ _ _ _ (tL1 h0) rfl HT1.out
    | exact comp_some _ _ _ _ _ _ _ _ _ _ (tL2 (by assumption)) rfl HT2.out
    | exact comp_some _ _ _ _ _ _ _ _ _ _ (tL3 (by assumption)) (by simp) (ext_own HT3.out (Nat.le_refl _) ((Keep.refl (· = w.heap.size) _).set1 3 _))
    | exact (HO.out.from_ HT2.out).eq_ (tL4 (by assumption))
    | exact comp_some _ _ _ _ _ _ _ _ _ _ tL5 rfl HT2.out
    | exact comp_some _ _ _ _ _ _ _ _ _ _ (tL6 (by assumption)) rfl HT2.out
    | exact comp_none _ _ _ _ _ _ _ _ _ _ (tL7 (by assumption)) HT2.out
    | exact comp_some _ _ _ _ _ _ _ _ _ _ (tL8 (by first | exact .inl rfl | exact .inr rfl) (by first | exact fun h => hn6 h.2 | exact fun h => hnn h.1) (by assumption) (by assumption)) (by simp) (ext_own HT3.out (Nat.le_refl _) ((Keep.refl (· = w.heap.size) _).set1 3 _))
    | exact comp_none _ _ _ _ _ _ _ _ _ _ (tL9 (by first | exact .inl rfl | exact .inr rfl) (by first | exact fun h => hn6 h.2 | exact fun h => hnn h.1) (by assumption) (by assumption)) HT3.out
def src (c : UInt8) (i j k : Int) : Int :=
 if c = 4 then (if k < i then k else k - 1)
 else if c = 5 then (if k < i then k else k + 1)
 else if c = 6 then k
 else if k = j then i else (if k < j then (if k < i then k else k + 1) else (if k - 1 < i then k - 1 else k))
def isNew (c : UInt8) (i k : Int) : Prop := (c = 4 ∨ c = 6) ∧ k = i
def dlen (c : UInt8) : Int := if c = 4 then 1 else if c = 5 then -1 else 0
theorem bl1 {a b : Int} (h : a < b) : bl a b = 1 := by simp [bl, h]
theorem bl0 {a b : Int} (h : ¬ a < b) : bl a b = 0 := by simp [bl, h]
instance (c : UInt8) (i k : Int) : Decidable (isNew c i k) := by unfold isNew; infer_instance
def two (xk : UInt8) (xi xj : Int) (y' : Option (Int × Int)) (yk : UInt8) (k : Int) : Bool ⊕ Int :=
 match y' with
 | none => if isNew xk xi k then .inl true else .inr (src xk xi xj k)
 | some (yi, yj) => if isNew yk yi k then .inl false else if isNew xk xi (src yk yi yj k) then .inl true else .inr (src xk xi xj (src yk yi yj k))
def swp : Bool ⊕ Int → Bool ⊕ Int
 | .inl b => .inl (!b)
 | .inr k => .inr k
theorem sw1 (b : Bool) : swp (.inl b) = .inl (!b) := rfl
theorem sw2 (k : Int) : swp (.inr k) = .inr k := rfl
theorem t44 (xi yi k : Int) (xj yj : Int) (left : Bool) : two 4 xi xj (turnL 4 yi yj 4 xi xj (!left)) 4 k = swp (two 4 yi yj (turnL 4 xi xj 4 yi yj left) 4 k) := by
 rcases Int.lt_trichotomy xi yi with h | rfl | h
 ·have h1 : ¬ xi = yi := by omega
  have h2 : ¬ yi = xi := by omega
  have h3 : ¬ yi < xi := by omega
  cases left <;> simp [turnL, knownL, two, gapL, src, isNew, up, bl, atL, moveL, targetL, apply_ite swp, sw1, sw2, h, h1, h2, h3] <;> (repeat' split) <;> first | rfl | (exfalso; omega) | (congr 1; omega)
 ·cases left <;> simp [turnL, knownL, two, gapL, src, isNew, up, bl, atL, moveL, targetL, apply_ite swp, sw1, sw2] <;> (repeat' split) <;> first | rfl | (exfalso; omega) | (congr 1; omega)
 ·have h1 : ¬ xi = yi := by omega
  have h2 : ¬ yi = xi := by omega
  have h3 : ¬ xi < yi := by omega
  cases left <;> simp [turnL, knownL, two, gapL, src, isNew, up, bl, atL, moveL, targetL, apply_ite swp, sw1, sw2, h, h1, h2, h3] <;> (repeat' split) <;> first | rfl | (exfalso; omega) | (congr 1; omega)
theorem t45 (xi yi k : Int) (xj yj : Int) (left : Bool) : two 4 xi xj (turnL 5 yi yj 4 xi xj (!left)) 5 k = swp (two 5 yi yj (turnL 4 xi xj 5 yi yj left) 4 k) := by
 rcases Int.lt_trichotomy xi yi with h | rfl | h
 ·have h1 : ¬ xi = yi := by omega
  have h2 : ¬ yi = xi := by omega
  have h3 : ¬ yi < xi := by omega
  cases left <;> simp [turnL, knownL, two, gapL, src, isNew, up, bl, atL, moveL, targetL, apply_ite swp, sw1, sw2, h, h1, h2, h3] <;> (repeat' split) <;> first | rfl | (exfalso; omega) | (congr 1; omega)
 ·cases left <;> simp [turnL, knownL, two, gapL, src, isNew, up, bl, atL, moveL, targetL, apply_ite swp, sw1, sw2] <;> (repeat' split) <;> first | rfl | (exfalso; omega) | (congr 1; omega)
 ·have h1 : ¬ xi = yi := by omega
  have h2 : ¬ yi = xi := by omega
  have h3 : ¬ xi < yi := by omega
  cases left <;> simp [turnL, knownL, two, gapL, src, isNew, up, bl, atL, moveL, targetL, apply_ite swp, sw1, sw2, h, h1, h2, h3] <;> (repeat' split) <;> first | rfl | (exfalso; omega) | (congr 1; omega)
theorem t46 (xi yi k : Int) (xj yj : Int) (left : Bool) : two 4 xi xj (turnL 6 yi yj 4 xi xj (!left)) 6 k = swp (two 6 yi yj (turnL 4 xi xj 6 yi yj left) 4 k) := by
 rcases Int.lt_trichotomy xi yi with h | rfl | h
 ·have h1 : ¬ xi = yi := by omega
  have h2 : ¬ yi = xi := by omega
  have h3 : ¬ yi < xi := by omega
  cases left <;> simp [turnL, knownL, two, gapL, src, isNew, up, bl, atL, moveL, targetL, apply_ite swp, sw1, sw2, h, h1, h2, h3] <;> (repeat' split) <;> first | rfl | (exfalso; omega) | (congr 1; omega)
 ·cases left <;> simp [turnL, knownL, two, gapL, src, isNew, up, bl, atL, moveL, targetL, apply_ite swp, sw1, sw2] <;> (repeat' split) <;> first | rfl | (exfalso; omega) | (congr 1; omega)
 ·have h1 : ¬ xi = yi := by omega
  have h2 : ¬ yi = xi := by omega
  have h3 : ¬ xi < yi := by omega
  cases left <;> simp [turnL, knownL, two, gapL, src, isNew, up, bl, atL, moveL, targetL, apply_ite swp, sw1, sw2, h, h1, h2, h3] <;> (repeat' split) <;> first | rfl | (exfalso; omega) | (congr 1; omega)
theorem t55 (xi yi k : Int) (xj yj : Int) (left : Bool) : two 5 xi xj (turnL 5 yi yj 5 xi xj (!left)) 5 k = swp (two 5 yi yj (turnL 5 xi xj 5 yi yj left) 5 k) := by
 rcases Int.lt_trichotomy xi yi with h | rfl | h
 ·have h1 : ¬ xi = yi := by omega
  have h2 : ¬ yi = xi := by omega
  have h3 : ¬ yi < xi := by omega
  cases left <;> simp [turnL, knownL, two, gapL, src, isNew, up, bl, atL, moveL, targetL, apply_ite swp, sw1, sw2, h, h1, h2, h3] <;> (repeat' split) <;> first | rfl | (exfalso; omega) | (congr 1; omega)
 ·cases left <;> simp [turnL, knownL, two, gapL, src, isNew, up, bl, atL, moveL, targetL, apply_ite swp, sw1, sw2] <;> (repeat' split) <;> first | rfl | (exfalso; omega) | (congr 1; omega)
 ·have h1 : ¬ xi = yi := by omega
  have h2 : ¬ yi = xi := by omega
  have h3 : ¬ xi < yi := by omega
  cases left <;> simp [turnL, knownL, two, gapL, src, isNew, up, bl, atL, moveL, targetL, apply_ite swp, sw1, sw2, h, h1, h2, h3] <;> (repeat' split) <;> first | rfl | (exfalso; omega) | (congr 1; omega)
theorem t56 (xi yi k : Int) (xj yj : Int) (left : Bool) : two 5 xi xj (turnL 6 yi yj 5 xi xj (!left)) 6 k = swp (two 6 yi yj (turnL 5 xi xj 6 yi yj left) 5 k) := by
 rcases Int.lt_trichotomy xi yi with h | rfl | h
 ·have h1 : ¬ xi = yi := by omega
  have h2 : ¬ yi = xi := by omega
  have h3 : ¬ yi < xi := by omega
  cases left <;> simp [turnL, knownL, two, gapL, src, isNew, up, bl, atL, moveL, targetL, apply_ite swp, sw1, sw2, h, h1, h2, h3] <;> (repeat' split) <;> first | rfl | (exfalso; omega) | (congr 1; omega)
 ·cases left <;> simp [turnL, knownL, two, gapL, src, isNew, up, bl, atL, moveL, targetL, apply_ite swp, sw1, sw2] <;> (repeat' split) <;> first | rfl | (exfalso; omega) | (congr 1; omega)
 ·have h1 : ¬ xi = yi := by omega
  have h2 : ¬ yi = xi := by omega
  have h3 : ¬ xi < yi := by omega
  cases left <;> simp [turnL, knownL, two, gapL, src, isNew, up, bl, atL, moveL, targetL, apply_ite swp, sw1, sw2, h, h1, h2, h3] <;> (repeat' split) <;> first | rfl | (exfalso; omega) | (congr 1; omega)
theorem t66 (xi yi k : Int) (xj yj : Int) (left : Bool) : two 6 xi xj (turnL 6 yi yj 6 xi xj (!left)) 6 k = swp (two 6 yi yj (turnL 6 xi xj 6 yi yj left) 6 k) := by
 rcases Int.lt_trichotomy xi yi with h | rfl | h
 ·have h1 : ¬ xi = yi := by omega
  have h2 : ¬ yi = xi := by omega
  have h3 : ¬ yi < xi := by omega
  cases left <;> simp [turnL, knownL, two, gapL, src, isNew, up, bl, atL, moveL, targetL, apply_ite swp, sw1, sw2, h, h1, h2, h3] <;> (repeat' split) <;> first | rfl | (exfalso; omega) | (congr 1; omega)
 ·cases left <;> simp [turnL, knownL, two, gapL, src, isNew, up, bl, atL, moveL, targetL, apply_ite swp, sw1, sw2] <;> (repeat' split) <;> first | rfl | (exfalso; omega) | (congr 1; omega)
 ·have h1 : ¬ xi = yi := by omega
  have h2 : ¬ yi = xi := by omega
  have h3 : ¬ xi < yi := by omega
  cases left <;> simp [turnL, knownL, two, gapL, src, isNew, up, bl, atL, moveL, targetL, apply_ite swp, sw1, sw2, h, h1, h2, h3] <;> (repeat' split) <;> first | rfl | (exfalso; omega) | (congr 1; omega)
theorem t67 (xi yi k : Int) (xj yj : Int) (left : Bool) : two 6 xi xj (turnL 7 yi yj 6 xi xj (!left)) 7 k = swp (two 7 yi yj (turnL 6 xi xj 7 yi yj left) 6 k) := by
 rcases Int.lt_trichotomy xi yi with h | rfl | h
 ·have h1 : ¬ xi = yi := by omega
  have h2 : ¬ yi = xi := by omega
  have h3 : ¬ yi < xi := by omega
  cases left <;> simp [turnL, knownL, two, gapL, src, isNew, up, bl, atL, moveL, targetL, apply_ite swp, sw1, sw2, h, h1, h2, h3] <;> (repeat' split) <;> first | rfl | (exfalso; omega) | (congr 1; omega)
 ·cases left <;> simp [turnL, knownL, two, gapL, src, isNew, up, bl, atL, moveL, targetL, apply_ite swp, sw1, sw2] <;> (repeat' split) <;> first | rfl | (exfalso; omega) | (congr 1; omega)
 ·have h1 : ¬ xi = yi := by omega
  have h2 : ¬ yi = xi := by omega
  have h3 : ¬ xi < yi := by omega
  cases left <;> simp [turnL, knownL, two, gapL, src, isNew, up, bl, atL, moveL, targetL, apply_ite swp, sw1, sw2, h, h1, h2, h3] <;> (repeat' split) <;> first | rfl | (exfalso; omega) | (congr 1; omega)
theorem a47 (xi yi yj k xi' yi' yj' : Int) (left : Bool) (h1 : yi' = yi + up xi yi true) (h2 : yj' = yj + up (xi - bl yi xi) yj left) (h3 : xi' = (xi - bl yi xi) + up yj (xi - bl yi xi) (!left)) :
  (src 7 yi' yj' k = xi ↔ k = xi') ∧ (k ≠ xi' → src 4 xi 0 (src 7 yi' yj' k) = src 7 yi yj (src 4 xi' 0 k)) := by
 simp only [src, show (7 : UInt8) ≠ 4 from by decide, show (7 : UInt8) ≠ 5 from by decide, show (7 : UInt8) ≠ 6 from by decide, if_true, if_false]
 cases left
 all_goals
  simp only [up, bl, Bool.not_true, Bool.not_false, and_true, and_false, Bool.false_eq_true, if_false] at h1 h2 h3
  by_cases c1 : yi < xi
  all_goals
   simp only [c1, if_true, if_false, Int.sub_zero] at h2 h3
   by_cases c2 : xi = yi <;> by_cases c3 : xi < yi <;> (first | omega | skip)
   all_goals (simp only [c2, c3, if_true, if_false] at h1)
   all_goals
    repeat' split at h2
    all_goals
     repeat' split at h3
     all_goals (first | omega | (constructor <;> omega))
theorem a57 (xi yi yj k xi' yi' yj' : Int) (hne : xi ≠ yi) (h1 : yi' = yi - bl xi yi) (h2 : yj' = yj - bl (xi - bl yi xi) yj) (h3 : xi' = xi - bl yi xi + up yj (xi - bl yi xi) true) :
  src 5 xi 0 (src 7 yi' yj' k) = src 7 yi yj (src 5 xi' 0 k) := by
 simp only [src, show (7 : UInt8) ≠ 4 from by decide, show (7 : UInt8) ≠ 5 from by decide, show (5 : UInt8) ≠ 4 from by decide, show (7 : UInt8) ≠ 6 from by decide, if_true, if_false]
 simp only [up, bl, and_true] at h1 h2 h3
 by_cases c1 : yi < xi
 all_goals
  simp only [c1, if_true, if_false, Int.sub_zero] at h2 h3
  by_cases c3 : xi < yi <;> (first | omega | skip)
  all_goals (simp only [c3, if_true, if_false] at h1)
  all_goals
   repeat' split at h2
   all_goals
    repeat' split at h3
    all_goals omega
theorem a57b (xi yi yj k xi' : Int) (he : xi = yi) (h3 : xi' = yj) : src 5 xi 0 k = src 7 yi yj (src 5 xi' 0 k) := by
 simp only [src, show (7 : UInt8) ≠ 4 from by decide, show (7 : UInt8) ≠ 5 from by decide, show (5 : UInt8) ≠ 4 from by decide, show (7 : UInt8) ≠ 6 from by decide, if_true, if_false]
 omega
theorem a77 (xi xj yi yj k xi' xj' yi' yj' : Int) (hlt : xi < yi) (left : Bool) (h1 : yi' = yi - bl xi yi + up xj (yi - bl xi yi) true) (h2 : yj' = (yj - bl (xi - bl yi xi) yj) + up (xj - bl (yi - bl xi yi) xj) (yj - bl (xi - bl yi xi) yj) left)
  (h3 : xi' = xi - bl yi xi + up yj (xi - bl yi xi) true) (h4 : xj' = (xj - bl (yi - bl xi yi) xj) + up (yj - bl (xi - bl yi xi) yj) (xj - bl (yi - bl xi yi) xj) (!left)) :
  src 7 xi xj (src 7 yi' yj' k) = src 7 yi yj (src 7 xi' xj' k) := by
 simp only [src, show (7 : UInt8) ≠ 4 from by decide, show (7 : UInt8) ≠ 5 from by decide, show (7 : UInt8) ≠ 6 from by decide, if_true, if_false]
 rw [bl1 hlt, bl0 (show ¬ yi < xi from by omega)] at *
 simp only [Int.sub_zero] at h1 h2 h3 h4
 obtain ⟨p, hp⟩ : ∃ p, p = yj - bl xi yj := ⟨_, rfl⟩
 obtain ⟨q, hq⟩ : ∃ q, q = xj - bl (yi - 1) xj := ⟨_, rfl⟩
 rw [← hp] at h2 h4
 rw [← hq] at h2 h4
 cases left
 all_goals
  simp only [up, bl, Bool.not_true, Bool.not_false, and_true, and_false, Bool.false_eq_true, if_false] at h1 h2 h3 h4 hp hq
  repeat' split at hp
  all_goals
   repeat' split at hq
   all_goals
    repeat' split at h1
    all_goals
     first
     | (exfalso; omega)
     | (repeat' split at h3
        all_goals
         first
         | (exfalso; omega)
         | (repeat' split at h2
            all_goals
             first
             | (exfalso; omega)
             | (repeat' split at h4
                all_goals first | (exfalso; omega) | omega)))
theorem turn74 (yi yj xi xj : Int) (left : Bool) : turnL 7 yi yj 4 xi xj (!left) = some (yi + up xi yi true, yj + up (xi - bl yi xi) yj left) := by
 simp [turnL, moveL, atL, targetL, knownL]
theorem turn47 (yi yj xi xj : Int) (left : Bool) : turnL 4 xi xj 7 yi yj left = some ((xi - bl yi xi) + up yj (xi - bl yi xi) (!left), xj) := by
 simp [turnL, gapL, knownL]
theorem two_n7 {c : UInt8} {xi xj yi yj k : Int} : two c xi xj (some (yi, yj)) 7 k = if isNew c xi (src 7 yi yj k) then .inl true else .inr (src c xi xj (src 7 yi yj k)) := by
 simp only [two]
 rw [if_neg (fun h : isNew 7 yi k => by have := h.1; revert this; decide)]
theorem src4j (i j k : Int) : src 4 i j k = src 4 i 0 k := rfl
theorem src5j (i j k : Int) : src 5 i j k = src 5 i 0 k := rfl
theorem new4 {i k : Int} : isNew 4 i k ↔ k = i := by simp [isNew]
theorem t47 (xi yi k : Int) (xj yj : Int) (left : Bool) : two 4 xi xj (turnL 7 yi yj 4 xi xj (!left)) 7 k = swp (two 7 yi yj (turnL 4 xi xj 7 yi yj left) 4 k) := by
 rw [turn74, turn47, two_n7]
 obtain ⟨hA, hB⟩ := a47 xi yi yj k _ _ _ left rfl rfl rfl
 have h7 : ∀ m, ¬ isNew 7 yi m := fun m h => by have := h.1; revert this; decide
 simp only [two]
 by_cases h : k = (xi - bl yi xi) + up yj (xi - bl yi xi) (!left)
 ·rw [if_pos (new4.2 (hA.2 h)), if_pos (new4.2 h)]; rfl
 ·rw [if_neg (fun e => h (hA.1 (new4.1 e))), if_neg (fun e => h (new4.1 e)), if_neg (h7 _), src4j, hB h]; rfl
theorem t57 (xi yi k : Int) (xj yj : Int) (left : Bool) : two 5 xi xj (turnL 7 yi yj 5 xi xj (!left)) 7 k = swp (two 7 yi yj (turnL 5 xi xj 7 yi yj left) 5 k) := by
 have h7 : ∀ m, ¬ isNew 7 yi m := fun m h => by have := h.1; revert this; decide
 have h5 : ∀ i m, ¬ isNew 5 i m := fun i m h => by have := h.1; revert this; decide
 by_cases he : xi = yi
 ·subst he
  have e1 : turnL 7 xi yj 5 xi xj (!left) = none := by simp [turnL, moveL, knownL]
  have e2 : turnL 5 xi xj 7 xi yj left = some (yj, xj) := by simp [turnL, atL, knownL]
  rw [e1, e2]
  simp only [two, if_neg (h7 _), if_neg (h5 _ _)]
  rw [src5j, a57b xi xi yj k yj rfl rfl]; rfl
 ·have e1 : turnL 7 yi yj 5 xi xj (!left) = some (yi - bl xi yi, yj - bl (xi - bl yi xi) yj) := by simp [turnL, moveL, atL, targetL, knownL, he, show ¬ yi = xi from fun e => he e.symm]
  have e2 : turnL 5 xi xj 7 yi yj left = some (xi - bl yi xi + up yj (xi - bl yi xi) true, xj) := by simp [turnL, atL, knownL, show ¬ yi = xi from fun e => he e.symm]
  rw [e1, e2]
  simp only [two, if_neg (h7 _), if_neg (h5 _ _), show ∀ a b, ¬ isNew 7 a b from fun a b h => by have := h.1; revert this; decide, if_false]
  rw [src5j, a57 xi yi yj k _ _ _ he rfl rfl rfl]; rfl
theorem turn77 {yi yj xi xj : Int} {left : Bool} (h : yi ≠ xi) : turnL 7 yi yj 7 xi xj left = some (yi - bl xi yi + up xj (yi - bl xi yi) true, (yj - bl (xi - bl yi xi) yj) + up (xj - bl (yi - bl xi yi) xj) (yj - bl (xi - bl yi xi) yj) (!left)) := by
 simp [turnL, moveL, atL, targetL, knownL, h, show ¬ xi = yi from fun e => h e.symm]
theorem t77 (xi yi k : Int) (xj yj : Int) (left : Bool) : two 7 xi xj (turnL 7 yi yj 7 xi xj (!left)) 7 k = swp (two 7 yi yj (turnL 7 xi xj 7 yi yj left) 7 k) := by
 have h7 : ∀ a b, ¬ isNew 7 a b := fun a b h => by have := h.1; revert this; decide
 rcases Int.lt_trichotomy xi yi with h | rfl | h
 ·rw [turn77 (by omega), turn77 (by omega)]
  simp only [two, h7, if_false, Bool.not_not]
  rw [a77 xi xj yi yj k _ _ _ _ h left rfl rfl rfl rfl]; rfl
 ·cases left
  ·have e1 : turnL 7 xi yj 7 xi xj (!false) = some (xj, yj) := by simp [turnL, moveL, knownL]
   have e2 : turnL 7 xi xj 7 xi yj false = none := by simp [turnL, moveL, knownL]
   rw [e1, e2]
   simp only [two, h7, if_false]
   show Sum.inr _ = Sum.inr _
   congr 1
   simp only [src, show (7 : UInt8) ≠ 4 from by decide, show (7 : UInt8) ≠ 5 from by decide, show (7 : UInt8) ≠ 6 from by decide, if_false]
   omega
  ·have e1 : turnL 7 xi yj 7 xi xj (!true) = none := by simp [turnL, moveL, knownL]
   have e2 : turnL 7 xi xj 7 xi yj true = some (yj, xj) := by simp [turnL, moveL, knownL]
   rw [e1, e2]
   simp only [two, h7, if_false]
   show Sum.inr _ = Sum.inr _
   congr 1
   simp only [src, show (7 : UInt8) ≠ 4 from by decide, show (7 : UInt8) ≠ 5 from by decide, show (7 : UInt8) ≠ 6 from by decide, if_false]
   omega
 ·rw [turn77 (by omega), turn77 (by omega)]
  simp only [two, h7, if_false, Bool.not_not]
  have key := a77 yi yj xi xj k _ _ _ _ h (!left) rfl rfl rfl rfl
  rw [Bool.not_not] at key
  rw [key]; rfl
theorem swp_swp (x : Bool ⊕ Int) : swp (swp x) = x := by cases x <;> simp [swp]
theorem two_all {a b : UInt8} (ha : a = 4 ∨ a = 5 ∨ a = 6 ∨ a = 7) (hb : b = 4 ∨ b = 5 ∨ b = 6 ∨ b = 7) (xi yi k : Int) (xj yj : Int) (left : Bool) : two a xi xj (turnL b yi yj a xi xj (!left)) b k = swp (two b yi yj (turnL a xi xj b yi yj left) a k) := by
 have back : ∀ {a b : UInt8}, (∀ (xi yi k : Int) (xj yj : Int) (left : Bool), two a xi xj (turnL b yi yj a xi xj (!left)) b k = swp (two b yi yj (turnL a xi xj b yi yj left) a k)) → ∀ (xi yi k : Int) (xj yj : Int) (left : Bool), two b xi xj (turnL a yi yj b xi xj (!left)) a k = swp (two a yi yj (turnL b xi xj a yi yj left) b k) := fun h xi yi k xj yj left => by
  have := h yi xi k yj xj (!left)
  rw [Bool.not_not] at this
  rw [this, swp_swp]
 rcases ha with rfl | rfl | rfl | rfl <;> rcases hb with rfl | rfl | rfl | rfl
 ·exact t44 ..
 ·exact t45 ..
 ·exact t46 ..
 ·exact t47 ..
 ·exact back t45 ..
 ·exact t55 ..
 ·exact t56 ..
 ·exact t57 ..
 ·exact back t46 ..
 ·exact back t56 ..
 ·exact t66 ..
 ·exact t67 ..
 ·exact back t47 ..
 ·exact back t57 ..
 ·exact back t67 ..
 ·exact t77 ..
structure Cm (α : Type) where
 k : UInt8
 i : Int
 j : Int
 x : α
def doL {α : Type} (l : List α) (c : Cm α) : Option (List α) :=
 if checkL l.length c.k c.i c.j = 0 then
  (if c.k = 4 then some (l.take c.i.toNat ++ c.x :: l.drop c.i.toNat)
   else if c.k = 5 then some (l.eraseIdx c.i.toNat)
   else if c.k = 6 then some (l.set c.i.toNat c.x)
   else l[c.i.toNat]?.map fun x => (l.eraseIdx c.i.toNat).take c.j.toNat ++ x :: (l.eraseIdx c.i.toNat).drop c.j.toNat)
 else none
def doneL {α : Type} : List α → List (Cm α) → Option (List α)
 | l, [] => some l
 | l, c :: cs => (doL l c).bind fun l' => doneL l' cs
def turnQ {α : Type} (a b : Cm α) (left : Bool) : List (Cm α) := ((turnL a.k a.i a.j b.k b.i b.j left).map fun p => ({ a with i := p.1, j := p.2 } : Cm α)).toList
def Fn {α : Type} (l : List α) (k : Int) : Option α := if 0 ≤ k then l[k.toNat]? else none
def doF {α : Type} (f : Int → Option α) (c : Cm α) (k : Int) : Option α := if isNew c.k c.i k then some c.x else f (src c.k c.i c.j k)
theorem F_inj {α : Type} {l m : List α} (h : ∀ k, Fn l k = Fn m k) : l = m := by
 apply List.ext_getElem?
 intro i
 have := h i
 simpa [Fn] using this
theorem ins_get {α : Type} (l : List α) (i : Nat) (x : α) (h : i ≤ l.length) (k : Nat) : (l.take i ++ x :: l.drop i)[k]? = if k < i then l[k]? else if k = i then some x else l[k - 1]? := by
 have h1 : (l.take i).length = i := by rw [List.length_take]; omega
 by_cases c : k < i
 ·rw [if_pos c, List.getElem?_append_left (by omega), List.getElem?_take_of_lt c]
 ·rw [if_neg c, List.getElem?_append_right (by omega), h1]
  by_cases e : k = i
  ·subst e; simp
  ·rw [if_neg e]
   obtain ⟨m, rfl⟩ : ∃ m, k = i + m + 1 := ⟨k - i - 1, by omega⟩
   rw [show i + m + 1 - i = m + 1 from by omega, List.getElem?_cons_succ, List.getElem?_drop, show i + m + 1 - 1 = i + m from by omega]
theorem check_ok {n : Nat} {k : UInt8} {i j : Int} (h : checkL n k i j = 0) : (k = 4 ∧ 0 ≤ i ∧ i ≤ n) ∨ (k = 5 ∧ 0 ≤ i ∧ i < n) ∨ (k = 6 ∧ 0 ≤ i ∧ i < n) ∨ (k = 7 ∧ 0 ≤ i ∧ i < n ∧ 0 ≤ j ∧ j < n) := by
 unfold checkL at h
 by_cases hk : knownL k = false
 ·rw [if_pos hk] at h; cases h
 rw [if_neg hk] at h
 by_cases h1 : i < 0 ∨ i > (if k = 4 then (n : Int) else (n : Int) - 1)
 ·rw [if_pos h1] at h; cases h
 rw [if_neg h1] at h
 by_cases h2 : k = 7 ∧ (j < 0 ∨ j ≥ (n : Int))
 ·rw [if_pos h2] at h; cases h
 have hk4 : k = 4 ∨ k = 5 ∨ k = 6 ∨ k = 7 := by
  simp [knownL] at hk
  by_cases a4 : k = 4
  ·exact .inl a4
  by_cases a5 : k = 5
  ·exact .inr (.inl a5)
  by_cases a6 : k = 6
  ·exact .inr (.inr (.inl a6))
  exact .inr (.inr (.inr (hk a4 a5 a6)))
 rcases hk4 with rfl | rfl | rfl | rfl
 ·rw [if_pos rfl] at h1; exact .inl ⟨rfl, by omega, by omega⟩
 ·rw [if_neg (by decide)] at h1; exact .inr (.inl ⟨rfl, by omega, by omega⟩)
 ·rw [if_neg (by decide)] at h1; exact .inr (.inr (.inl ⟨rfl, by omega, by omega⟩))
 ·rw [if_neg (by decide)] at h1
  have h3 : ¬ (j < 0 ∨ j ≥ (n : Int)) := fun e => h2 ⟨rfl, e⟩
  exact .inr (.inr (.inr ⟨rfl, by omega, by omega, by omega, by omega⟩))
theorem check_of {n : Nat} {k : UInt8} {i j : Int} (h : (k = 4 ∧ 0 ≤ i ∧ i ≤ n) ∨ (k = 5 ∧ 0 ≤ i ∧ i < n) ∨ (k = 6 ∧ 0 ≤ i ∧ i < n) ∨ (k = 7 ∧ 0 ≤ i ∧ i < n ∧ 0 ≤ j ∧ j < n)) : checkL n k i j = 0 := by
 unfold checkL
 rcases h with ⟨rfl, h1, h2⟩ | ⟨rfl, h1, h2⟩ | ⟨rfl, h1, h2⟩ | ⟨rfl, h1, h2, h3, h4⟩
 ·rw [if_neg (by decide), if_neg (by rw [if_pos rfl]; omega), if_neg (fun e => absurd e.1 (by decide))]
 ·rw [if_neg (by decide), if_neg (by rw [if_neg (by decide)]; omega), if_neg (fun e => absurd e.1 (by decide))]
 ·rw [if_neg (by decide), if_neg (by rw [if_neg (by decide)]; omega), if_neg (fun e => absurd e.1 (by decide))]
 ·rw [if_neg (by decide), if_neg (by rw [if_neg (by decide)]; omega), if_neg (fun e => by have := e.2; omega)]
theorem do_F {α : Type} (l : List α) (c : Cm α) (h : checkL l.length c.k c.i c.j = 0) : ∃ l', doL l c = some l' ∧ (∀ k, Fn l' k = doF (Fn l) c k) ∧ (l'.length : Int) = l.length + dlen c.k := by
 obtain ⟨ck, ci, cj, cx⟩ := c
 simp only at h
 have h0 := check_ok h
 rcases h0 with ⟨rfl, h1, h2⟩ | ⟨rfl, h1, h2⟩ | ⟨rfl, h1, h2⟩ | ⟨rfl, h1, h2, h3, h4⟩
 ·refine ⟨_, by simp only [doL, h, if_true]; rfl, fun k => ?_, by simp [dlen]; omega⟩
  obtain ⟨i, rfl⟩ : ∃ i : Nat, ci = i := ⟨ci.toNat, by omega⟩
  simp only [Fn, doF, isNew, src, Int.toNat_natCast]
  by_cases hk : 0 ≤ k
  ·obtain ⟨m, rfl⟩ : ∃ m : Nat, k = m := ⟨k.toNat, by omega⟩
   rw [ins_get l i cx (by omega)]
   by_cases c1 : m < i
   ·simp [c1, show ¬ (m : Int) = i from by omega]
   ·by_cases c2 : m = i
    ·simp [c2]
    ·simp [c1, show ¬ (m : Int) = i from by omega, show (1 : Int) ≤ (m : Int) from by omega, show ((m : Int) - 1).toNat = m - 1 from by omega, c2]
  ·have c1 : k < i := by omega
   simp [hk, c1, show ¬ k = i from by omega]
 ·refine ⟨_, by simp only [doL, h, if_true]; rfl, fun k => ?_, by rw [List.length_eraseIdx_of_lt (show ci.toNat < l.length from by omega)]; simp [dlen]; omega⟩
  obtain ⟨i, rfl⟩ : ∃ i : Nat, ci = i := ⟨ci.toNat, by omega⟩
  simp only [Fn, doF, isNew, src, Int.toNat_natCast]
  by_cases hk : 0 ≤ k
  ·obtain ⟨m, rfl⟩ : ∃ m : Nat, k = m := ⟨k.toNat, by omega⟩
   rw [List.getElem?_eraseIdx]
   by_cases c1 : m < i
   ·simp [c1]
   ·simp [c1, show ((m : Int) + 1).toNat = m + 1 from by omega, show (0 : Int) ≤ (m : Int) + 1 from by omega]
  ·have c1 : k < i := by omega
   simp [hk, c1]
 ·refine ⟨_, by simp only [doL, h, if_true]; rfl, fun k => ?_, by simp [dlen]⟩
  obtain ⟨i, rfl⟩ : ∃ i : Nat, ci = i := ⟨ci.toNat, by omega⟩
  simp only [Fn, doF, isNew, src, Int.toNat_natCast]
  by_cases hk : 0 ≤ k
  ·obtain ⟨m, rfl⟩ : ∃ m : Nat, k = m := ⟨k.toNat, by omega⟩
   rw [Int.toNat_natCast, List.getElem?_set]
   by_cases c2 : m = i
   ·subst c2; simp [show m < l.length from by omega]
   ·simp [c2, show ¬ i = m from fun e => c2 e.symm, show ¬ (m : Int) = i from by omega]
  ·simp [hk, show ¬ k = i from by omega]
 ·obtain ⟨i, rfl⟩ : ∃ i : Nat, ci = i := ⟨ci.toNat, by omega⟩
  obtain ⟨j, rfl⟩ : ∃ j : Nat, cj = j := ⟨cj.toNat, by omega⟩
  have hi : i < l.length := by omega
  have hel : (l.eraseIdx i).length = l.length - 1 := List.length_eraseIdx_of_lt hi
  have hdo : doL l ⟨7, i, j, cx⟩ = some ((l.eraseIdx i).take j ++ l[i] :: (l.eraseIdx i).drop j) := by
   simp only [doL, h, if_true, Int.toNat_natCast]
   rw [List.getElem?_eq_getElem hi]; rfl
  refine ⟨_, hdo, fun k => ?_, by rw [List.length_append, List.length_cons, List.length_take, List.length_drop, hel]; simp [dlen]; omega⟩
  simp only [Fn, doF, isNew, src]
  by_cases hk : 0 ≤ k
  ·obtain ⟨m, rfl⟩ : ∃ m : Nat, k = m := ⟨k.toNat, by omega⟩
   rw [Int.toNat_natCast, ins_get _ j _ (by omega)]
   by_cases c1 : m < j
   ·rw [if_pos c1, List.getElem?_eraseIdx]
    by_cases c2 : m < i
    ·simp [c1, c2, show ¬ (m : Int) = j from by omega]
    ·simp [c1, c2, show ¬ (m : Int) = j from by omega, show ((m : Int) + 1).toNat = m + 1 from by omega, show (0 : Int) ≤ (m : Int) + 1 from by omega]
   ·by_cases c2 : m = j
    ·simp [c2, hi]
    ·rw [if_neg c1, if_neg c2, List.getElem?_eraseIdx]
     by_cases c3 : m - 1 < i
     ·simp [c1, c2, c3, show ¬ (m : Int) = j from by omega, show (m : Int) - 1 < i from by omega, show (0 : Int) ≤ (m : Int) - 1 from by omega, show ((m : Int) - 1).toNat = m - 1 from by omega, show (1 : Int) ≤ m from by omega]
     ·simp [c1, c2, c3, show ¬ (m : Int) = j from by omega, show ¬ (m : Int) - 1 < i from by omega, show m - 1 + 1 = m from by omega]
  ·have c1 : k < j := by omega
   have c2 : k < i := by omega
   simp [hk, c1, c2, show ¬ k = j from by omega]
theorem valid_turn {n : Int} {a b : UInt8} {ai aj bi bj i' j' : Int} {left : Bool} (ha : (a = 4 ∧ 0 ≤ ai ∧ ai ≤ n) ∨ (a = 5 ∧ 0 ≤ ai ∧ ai < n) ∨ (a = 6 ∧ 0 ≤ ai ∧ ai < n) ∨ (a = 7 ∧ 0 ≤ ai ∧ ai < n ∧ 0 ≤ aj ∧ aj < n))
  (hb : (b = 4 ∧ 0 ≤ bi ∧ bi ≤ n) ∨ (b = 5 ∧ 0 ≤ bi ∧ bi < n) ∨ (b = 6 ∧ 0 ≤ bi ∧ bi < n) ∨ (b = 7 ∧ 0 ≤ bi ∧ bi < n ∧ 0 ≤ bj ∧ bj < n)) (h : turnL a ai aj b bi bj left = some (i', j')) :
  (a = 4 ∧ 0 ≤ i' ∧ i' ≤ n + dlen b) ∨ (a = 5 ∧ 0 ≤ i' ∧ i' < n + dlen b) ∨ (a = 6 ∧ 0 ≤ i' ∧ i' < n + dlen b) ∨ (a = 7 ∧ 0 ≤ i' ∧ i' < n + dlen b ∧ 0 ≤ j' ∧ j' < n + dlen b) := by
 rcases ha with ⟨rfl, a1, a2⟩ | ⟨rfl, a1, a2⟩ | ⟨rfl, a1, a2⟩ | ⟨rfl, a1, a2, a3, a4⟩ <;> rcases hb with ⟨rfl, b1, b2⟩ | ⟨rfl, b1, b2⟩ | ⟨rfl, b1, b2⟩ | ⟨rfl, b1, b2, b3, b4⟩
 all_goals
  have hu := fun a b s => up_bd a b s
  by_cases he : ai = bi
  ·subst he
   cases left <;> simp [turnL, knownL, gapL, atL, moveL, targetL, up, bl, dlen] at h ⊢ <;> omega
  ·have he' : ¬ bi = ai := fun e => he e.symm
   cases left <;> simp [turnL, knownL, gapL, atL, moveL, targetL, up, bl, dlen, he, he'] at h ⊢ <;> omega
theorem done_two {α : Type} (l : List α) (x y : Cm α) (left : Bool) (hx : checkL l.length x.k x.i x.j = 0) (hy : checkL l.length y.k y.i y.j = 0) :
  ∃ p, doneL l (x :: turnQ y x left) = some p ∧ (∀ k, Fn p k = match two x.k x.i x.j (turnL y.k y.i y.j x.k x.i x.j left) y.k k with | .inl true => some x.x | .inl false => some y.x | .inr m => Fn l m) ∧ p.length ≤ l.length + 2 := by
 obtain ⟨l1, h1, f1, n1⟩ := do_F l x hx
 have hd : dlen x.k ≤ 1 := by unfold dlen; split; omega; split <;> omega
 cases ht : turnL y.k y.i y.j x.k x.i x.j left with
 | none =>
  refine ⟨l1, by simp [doneL, turnQ, h1, ht], fun k => ?_, by omega⟩
  rw [f1]
  simp only [doF, two]
  by_cases hn : isNew x.k x.i k <;> simp [hn]
 | some p =>
  obtain ⟨i', j'⟩ := p
  have hv := valid_turn (n := l.length) (check_ok hy) (check_ok hx) ht
  rw [← n1] at hv
  have hv' : checkL l1.length y.k i' j' = 0 := check_of hv
  obtain ⟨l2, h2, f2, n2⟩ := do_F l1 { y with i := i', j := j' } hv'
  have hd2 : dlen y.k ≤ 1 := by unfold dlen; split; omega; split <;> omega
  simp only at n2
  refine ⟨l2, by simp [doneL, turnQ, h1, ht, h2], fun k => ?_, by omega⟩
  rw [f2]
  simp only [doF, two, f1]
  by_cases hn : isNew y.k i' k
  ·simp [hn]
  ·by_cases hm : isNew x.k x.i (src y.k i' j' k) <;> simp [hn, hm]
theorem tp1 {α : Type} (l : List α) (x y : Cm α) (left : Bool) (hx : checkL l.length x.k x.i x.j = 0) (hy : checkL l.length y.k y.i y.j = 0) :
  ∃ p, doneL l (x :: turnQ y x (!left)) = some p ∧ doneL l (y :: turnQ x y left) = some p ∧ p.length ≤ l.length + 2 := by
 obtain ⟨p, h1, f1, n1⟩ := done_two l x y (!left) hx hy
 obtain ⟨q, h2, f2, _⟩ := done_two l y x left hy hx
 have kx : x.k = 4 ∨ x.k = 5 ∨ x.k = 6 ∨ x.k = 7 := by rcases check_ok hx with h | h | h | h <;> simp [h.1]
 have ky : y.k = 4 ∨ y.k = 5 ∨ y.k = 6 ∨ y.k = 7 := by rcases check_ok hy with h | h | h | h <;> simp [h.1]
 have : p = q := F_inj fun k => by
  rw [f1, f2, two_all kx ky]
  generalize two y.k y.i y.j (turnL x.k x.i x.j y.k y.i y.j left) x.k k = z
  rcases z with (_ | _) | m <;> rfl
 exact ⟨p, h1, this ▸ h2, n1⟩
end Go.Proofs.YtioplgfopillnaaDoor
