/- seq.Turn by contract. -/
import Derived.Test.YtimhfkllamimeaaSeqC
set_option linter.unusedSimpArgs false
set_option linter.unusedVariables false
namespace Go.Proofs.Ytimhfkllamimeaa
open Go.RowKit
set_option linter.unusedVariables false

def turnL (ak : UInt8) (ai aj : Int) (bk : UInt8) (bi bj : Int) (left : Bool) : Option (Int × Int) :=
  if knownL ak = false then some (ai, aj)
  else if knownL bk = false then some (ai, aj)
  else if ak = 4 then some (gapL ai bk bi bj left, aj)
  else if ak = 7 then moveL ai aj bk bi bj left
  else if ai = bi ∧ bk = 6 then (if ak = 5 ∨ left = true then some (ai, aj) else none)
  else if (atL bk bi bj ai).2 = true then some ((atL bk bi bj ai).1, aj) else none
theorem CompIs.from_ {k p key nn v0 v1 v2 v3 v4 s : Value} {w w1 w' : World} {r : Option (Int × Int)} {e : Ending} (h : CompIs k p key nn v0 v1 v2 v3 v4 s w1 r e w') (hE : Ext w w1) : CompIs k p key nn v0 v1 v2 v3 v4 s w r e w' := by
  obtain ⟨v, rfl, h1, h2⟩ := h
  refine ⟨v, rfl, hE.ext h1, ?_⟩
  cases r with
  | none => exact h2
  | some x => obtain ⟨g, e, hg, hb⟩ := h2; exact ⟨g, e, Nat.le_trans hE.size hg, hb⟩
theorem CompIs.eq_ {k p key nn v0 v1 v2 v3 v4 s : Value} {w w' : World} {r r' : Option (Int × Int)} {e : Ending} (h : CompIs k p key nn v0 v1 v2 v3 v4 s w r' e w') (hr : r = r') : CompIs k p key nn v0 v1 v2 v3 v4 s w r e w' := hr ▸ h
section
variable {ak bk : UInt8} {ai aj bi bj : Int} {left : Bool}
theorem tL1 (h : knownL ak = false) : turnL ak ai aj bk bi bj left = some (ai, aj) := by simp [turnL, h]
theorem tL2 (h : (!knownL bk) = true) : turnL ak ai aj bk bi bj left = some (ai, aj) := by simp at h; simp [turnL, h]
theorem tL3 (h : (!knownL bk) = false) : turnL 4 ai aj bk bi bj left = some (gapL ai bk bi bj left, aj) := by simp at h; simp [turnL, h, show knownL 4 = true from rfl]
theorem tL4 (h : (!knownL bk) = false) : turnL 7 ai aj bk bi bj left = moveL ai aj bk bi bj left := by simp at h; simp [turnL, h, show knownL 7 = true from rfl]
theorem tL5 : turnL 5 ai aj 6 ai bj left = some (ai, aj) := by simp [turnL, show knownL 5 = true from rfl, show knownL 6 = true from rfl]
theorem tL6 (h : left = true) : turnL 6 ai aj 6 ai bj left = some (ai, aj) := by subst h; simp [turnL, show knownL 6 = true from rfl]
theorem tL7 (h : left = false) : turnL 6 ai aj 6 ai bj left = none := by subst h; simp [turnL, show knownL 6 = true from rfl]
theorem tL8 (h : ak = 5 ∨ ak = 6) (hn : ¬ (ai = bi ∧ bk = 6)) (hk : (!knownL bk) = false) (ha : (!(atL bk bi bj ai).2) = false) : turnL ak ai aj bk bi bj left = some ((atL bk bi bj ai).1, aj) := by
  simp at hk ha
  rcases h with rfl | rfl <;> simp only [turnL, hk, ha, if_neg hn, show knownL 5 = true from rfl, show knownL 6 = true from rfl] <;> simp
theorem tL9 (h : ak = 5 ∨ ak = 6) (hn : ¬ (ai = bi ∧ bk = 6)) (hk : (!knownL bk) = false) (ha : (!(atL bk bi bj ai).2) = true) : turnL ak ai aj bk bi bj left = none := by
  simp at hk ha
  rcases h with rfl | rfl <;> simp only [turnL, hk, ha, if_neg hn, show knownL 5 = true from rfl, show knownL 6 = true from rfl] <;> simp
end
theorem known_kind {k : UInt8} (h4 : k ≠ 4) (h5 : k ≠ 5) (h6 : k ≠ 6) (h7 : k ≠ 7) : knownL k = false := by simp [knownL, h4, h5, h6, h7]

set_option maxHeartbeats 6400000 in
theorem turn_any (ak bk : UInt8) (ap akey ann a0 a1 a2 a3 a4 as_ p key nn v0 v1 v2 v3 v4 s : Value) (ai aj bi bj : Int) (left : Bool) (w : World) (hai : Sm ai) (haj : Sm aj) (hbi : Sm bi) (hbj : Sm bj) :
    Calls Try.prog 11 #[cmpV (U8 ak) ap akey ai aj ann a0 a1 a2 a3 a4 as_, cmpV (U8 bk) p key bi bj nn v0 v1 v2 v3 v4 s, .bool left] w (CompIs (U8 ak) ap akey ann a0 a1 a2 a3 a4 as_ w (turnL ak ai aj bk bi bj left)) := by
  have hA : Blk ((w.alloc (.cells #[U8 ak, ap, akey, .int .i64 ai, .int .i64 aj, ann, a0, a1, a2, a3, a4, as_] 29)).alloc (.cells #[U8 bk, p, key, .int .i64 bi, .int .i64 bj, nn, v0, v1, v2, v3, v4, s] 29)) w.heap.size 29 #[U8 ak, ap, akey, .int .i64 ai, .int .i64 aj, ann, a0, a1, a2, a3, a4, as_] := (Blk.new _ _ _).alloc _
  have hB : Blk ((w.alloc (.cells #[U8 ak, ap, akey, .int .i64 ai, .int .i64 aj, ann, a0, a1, a2, a3, a4, as_] 29)).alloc (.cells #[U8 bk, p, key, .int .i64 bi, .int .i64 bj, nn, v0, v1, v2, v3, v4, s] 29)) (w.heap.size + 1) 29 #[U8 bk, p, key, .int .i64 bi, .int .i64 bj, nn, v0, v1, v2, v3, v4, s] := by
    have := Blk.new (w.alloc (.cells #[U8 ak, ap, akey, .int .i64 ai, .int .i64 aj, ann, a0, a1, a2, a3, a4, as_] 29)) 29 #[U8 bk, p, key, .int .i64 bi, .int .i64 bj, nn, v0, v1, v2, v3, v4, s]
    rwa [World.size_alloc] at this
  have hE1 : Ext w ((w.alloc (.cells #[U8 ak, ap, akey, .int .i64 ai, .int .i64 aj, ann, a0, a1, a2, a3, a4, as_] 29)).alloc (.cells #[U8 bk, p, key, .int .i64 bi, .int .i64 bj, nn, v0, v1, v2, v3, v4, s] 29)) := ((Keep.refl _ _).alloc _).alloc _
  have HA := hid hA
  have HB := hid hB
  have HT := hid hE1
  have HSA := hid hai
  have HSAJ := hid haj
  have HSB := hid hbi
  have HSBJ := hid hbj
  clear hA hB hE1 hai haj hbi hbj
  have htw : (∃ h : ai = bi, bk = 6) ∨ (∃ h : ai = bi, ((bk.toNat : Int) == 6) = false ∧ bk ≠ 6) ∨ ((ai == bi) = false ∧ ai ≠ bi) := by
    by_cases h : ai = bi
    · by_cases h6 : bk = 6
      · exact .inl ⟨h, h6⟩
      · refine .inr (.inl ⟨h, ?_, h6⟩)
        simp only [beq_eq_false_iff_ne, ne_eq]
        intro e
        apply h6
        apply UInt8.toNat.inj
        simp; omega
    · exact .inr (.inr ⟨by simpa using h, h⟩)
  have he2 : (bi == bi) = true := by simp
  have HTW := hid (show (ai = bi ∧ bk = 6) ∨ ¬(ai = bi ∧ bk = 6) from Classical.em _)
  rcases htw with ⟨rfl, rfl⟩ | ⟨rfl, hne6, hn6⟩ | ⟨hne, hnn⟩
  all_goals
    rcases kind_cases ak with rfl | rfl | rfl | rfl | ⟨h0, h4, h5, h6, h7⟩
    all_goals
      go_enter Try.func11, Try.ntmps11
      go_wp2_with (first
        | (go_at_call 28; refine (known_any _ _ _ _ _ _ _ _ _ _ _ _ _).mono ?_; rintro e w1 ⟨rfl, hT⟩; have hA1 := HA.out.keep hT id; have HA1 := hid hA1; have hB1 := HB.out.keep hT id; have HB1 := hid hB1; have qa0 := hA1.cell 0; have qa1 := hA1.cell 1; have qa2 := hA1.cell 2; have qa3 := hA1.cell 3; have qa4 := hA1.cell 4; have qa5 := hA1.cell 5; have qa6 := hA1.cell 6; have qa7 := hA1.cell 7; have qa8 := hA1.cell 8; have qa9 := hA1.cell 9; have qa10 := hA1.cell 10; have qa11 := hA1.cell 11; have qb0 := hB1.cell 0; have qb1 := hB1.cell 1; have qb2 := hB1.cell 2; have qb3 := hB1.cell 3; have qb4 := hB1.cell 4; have qb5 := hB1.cell 5; have qb6 := hB1.cell 6; have qb7 := hB1.cell 7; have qb8 := hB1.cell 8; have qb9 := hB1.cell 9; have qb10 := hB1.cell 10; have qb11 := hB1.cell 11; have f3 := hA1.frozen 3; simp at qa0 qa1 qa2 qa3 qa4 qa5 qa6 qa7 qa8 qa9 qa10 qa11 qb0 qb1 qb2 qb3 qb4 qb5 qb6 qb7 qb8 qb9 qb10 qb11; have HT1 := hid (HT.out.ext hT); clear hT hA1)
        | (go_at_call 28; refine (known_any _ _ _ _ _ _ _ _ _ _ _ _ _).mono ?_; rintro e w2 ⟨rfl, hT⟩; have hA2 := HA1.out.keep hT id; have HA2 := hid hA2; have hB2 := HB1.out.keep hT id; have HB2 := hid hB2; have qa0 := hA2.cell 0; have qa1 := hA2.cell 1; have qa2 := hA2.cell 2; have qa3 := hA2.cell 3; have qa4 := hA2.cell 4; have qa5 := hA2.cell 5; have qa6 := hA2.cell 6; have qa7 := hA2.cell 7; have qa8 := hA2.cell 8; have qa9 := hA2.cell 9; have qa10 := hA2.cell 10; have qa11 := hA2.cell 11; have qb0 := hB2.cell 0; have qb1 := hB2.cell 1; have qb2 := hB2.cell 2; have qb3 := hB2.cell 3; have qb4 := hB2.cell 4; have qb5 := hB2.cell 5; have qb6 := hB2.cell 6; have qb7 := hB2.cell 7; have qb8 := hB2.cell 8; have qb9 := hB2.cell 9; have qb10 := hB2.cell 10; have qb11 := hB2.cell 11; have f3 := hA2.frozen 3; simp at qa0 qa1 qa2 qa3 qa4 qa5 qa6 qa7 qa8 qa9 qa10 qa11 qb0 qb1 qb2 qb3 qb4 qb5 qb6 qb7 qb8 qb9 qb10 qb11; have HT2 := hid (HT1.out.ext hT); clear hT hA2)
        | (go_at_call 29; refine (gap_any _ _ _ _ _ _ _ _ _ _ _ _ _ _ _ HSA.out HSB.out HSBJ.out).mono ?_; rintro e w3 ⟨rfl, hT⟩; have hA3 := HA2.out.keep hT id; have HA3 := hid hA3; have qa0 := hA3.cell 0; have qa1 := hA3.cell 1; have qa2 := hA3.cell 2; have qa3 := hA3.cell 3; have qa4 := hA3.cell 4; have qa5 := hA3.cell 5; have qa6 := hA3.cell 6; have qa7 := hA3.cell 7; have qa8 := hA3.cell 8; have qa9 := hA3.cell 9; have qa10 := hA3.cell 10; have qa11 := hA3.cell 11; have f3 := hA3.frozen 3; simp at qa0 qa1 qa2 qa3 qa4 qa5 qa6 qa7 qa8 qa9 qa10 qa11; have HT3 := hid (HT2.out.ext hT); clear hT hA3)
        | (go_at_call 22; refine (at_any _ _ _ _ _ _ _ _ _ _ _ _ _ _ HSA.out HSB.out HSBJ.out).mono ?_; rintro e w3 ⟨rfl, hT⟩; have hA3 := HA2.out.keep hT id; have HA3 := hid hA3; have qa0 := hA3.cell 0; have qa1 := hA3.cell 1; have qa2 := hA3.cell 2; have qa3 := hA3.cell 3; have qa4 := hA3.cell 4; have qa5 := hA3.cell 5; have qa6 := hA3.cell 6; have qa7 := hA3.cell 7; have qa8 := hA3.cell 8; have qa9 := hA3.cell 9; have qa10 := hA3.cell 10; have qa11 := hA3.cell 11; have f3 := hA3.frozen 3; simp at qa0 qa1 qa2 qa3 qa4 qa5 qa6 qa7 qa8 qa9 qa10 qa11; have HT3 := hid (HT2.out.ext hT); clear hT hA3)
        | (go_at_call 30; refine (move_any _ _ _ _ _ _ _ _ _ _ _ _ _ _ _ _ _ _ _ _ _ _ _ _ _ _ HSA.out HSAJ.out HSB.out HSBJ.out).mono ?_; rintro e w3 ⟨v, rfl, hT, hO⟩; have HO := hid (show CompIs _ _ _ _ _ _ _ _ _ _ _ _ _ _ from ⟨v, rfl, hT, hO⟩); clear hT hO))
    all_goals
      go_ret
      first
        | exact comp_some _ _ _ _ _ _ _ _ _ _ (tL1 h0) rfl HT1.out
        | exact comp_some _ _ _ _ _ _ _ _ _ _ (tL2 (by assumption)) rfl HT2.out
        | exact comp_some _ _ _ _ _ _ _ _ _ _ (tL3 (by assumption)) (by simp) (ext_own HT3.out (Nat.le_refl _) ((Keep.refl (· = w.heap.size) _).set1 3 _))
        | exact (HO.out.from_ HT2.out).eq_ (tL4 (by assumption))
        | exact comp_some _ _ _ _ _ _ _ _ _ _ tL5 rfl HT2.out
        | exact comp_some _ _ _ _ _ _ _ _ _ _ (tL6 (by assumption)) rfl HT2.out
        | exact comp_none _ _ _ _ _ _ _ _ _ _ (tL7 (by assumption)) HT2.out
        | exact comp_some _ _ _ _ _ _ _ _ _ _ (tL8 (by first | exact .inl rfl | exact .inr rfl) (by first | exact fun h => hn6 h.2 | exact fun h => hnn h.1) (by assumption) (by assumption)) (by simp) (ext_own HT3.out (Nat.le_refl _) ((Keep.refl (· = w.heap.size) _).set1 3 _))
        | exact comp_none _ _ _ _ _ _ _ _ _ _ (tL9 (by first | exact .inl rfl | exact .inr rfl) (by first | exact fun h => hn6 h.2 | exact fun h => hnn h.1) (by assumption) (by assumption)) HT3.out
end Go.Proofs.Ytimhfkllamimeaa
