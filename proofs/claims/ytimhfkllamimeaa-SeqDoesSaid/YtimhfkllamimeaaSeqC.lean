/- seq: move by contract. -/
import Derived.Test.YtimhfkllamimeaaSeqB
set_option linter.unusedSimpArgs false
set_option linter.unusedVariables false
namespace Go.Proofs.Ytimhfkllamimeaa
open Go.RowKit
set_option linter.unusedVariables false

def moveL (ai aj : Int) (bk : UInt8) (bi bj : Int) (left : Bool) : Option (Int × Int) :=
  if ai = bi ∧ bk = 5 then none
  else if ai = bi ∧ bk = 7 ∧ left = false then none
  else if ai = bi ∧ bk = 7 then some (bj, aj)
  else some (if bk = 6 then ai else (atL bk bi bj ai).1, targetL ai aj bk bi bj left)
/-- No component, or one. -/
def OneAt (w w' : World) (v : Value) : Option (Array Value) → Prop
  | none => v = .slice none 0 0
  | some cs => ∃ g, v = .slice (some ⟨g, 0, none⟩) 1 1 ∧ w.heap.size ≤ g ∧ Blk w' g 29 cs
def CompIs (k p key nn v0 v1 v2 v3 v4 s : Value) (w : World) (r : Option (Int × Int)) (e : Ending) (w' : World) : Prop :=
  ∃ v, e = .returned v ∧ Ext w w' ∧ OneAt w w' v (r.map fun x => #[k, p, key, .int .i64 x.1, .int .i64 x.2, nn, v0, v1, v2, v3, v4, s])
theorem comp_none (k p key nn v0 v1 v2 v3 v4 s : Value) {w w' : World} {r : Option (Int × Int)} (hr : r = none) (hE : Ext w w') : CompIs k p key nn v0 v1 v2 v3 v4 s w r (.returned (.slice none 0 0)) w' :=
  ⟨_, rfl, hE, by subst hr; rfl⟩
theorem comp_some (k p key nn v0 v1 v2 v3 v4 s : Value) {w W : World} {r : Option (Int × Int)} {g : Nat} {i j : Int} (hr : r = some (i, j)) (hg : g = W.heap.size) (hE : Ext w W) :
    CompIs k p key nn v0 v1 v2 v3 v4 s w r (.returned (.slice (some ⟨g, 0, none⟩) 1 1)) (W.alloc (.cells #[k, p, key, .int .i64 i, .int .i64 j, nn, v0, v1, v2, v3, v4, s] 29)) :=
  ⟨_, rfl, hE.alloc _, by subst hr hg; exact ⟨_, rfl, hE.size, Blk.new _ _ _⟩⟩
theorem ext_own {w w1 w2 : World} {g : Nat} (h : Ext w w1) (hg : w.heap.size ≤ g) (hk : Keep (· = g) w1 w2) : Ext w w2 := h.trans hk (fun q hq e => by omega)
theorem target_bd (ai aj : Int) (bk : UInt8) (bi bj : Int) (left : Bool) : aj - 1 ≤ targetL ai aj bk bi bj left ∧ targetL ai aj bk bi bj left ≤ aj + 1 := by
  have hb3 := bl_bd (bi - bl ai bi) aj
  have hu1 := up_bd (bi - bl ai bi) aj (!left)
  have hu2 := up_bd (bj - bl (ai - bl bi ai) bj) (aj - bl (bi - bl ai bi) aj) (!left)
  unfold targetL
  repeat' split
  all_goals omega

set_option maxHeartbeats 3200000 in
theorem move_any (bk : UInt8) (ak ap akey ann a0 a1 a2 a3 a4 as_ p key nn v0 v1 v2 v3 v4 s : Value) (ai aj bi bj : Int) (left : Bool) (w : World) (hai : Sm ai) (haj : Sm aj) (hbi : Sm bi) (hbj : Sm bj) :
    Calls Try.prog 30 #[cmpV ak ap akey ai aj ann a0 a1 a2 a3 a4 as_, cmpV (U8 bk) p key bi bj nn v0 v1 v2 v3 v4 s, .bool left] w (CompIs ak ap akey ann a0 a1 a2 a3 a4 as_ w (moveL ai aj bk bi bj left)) := by
  obtain ⟨hai1, hai2⟩ := hai
  obtain ⟨haj1, haj2⟩ := haj
  obtain ⟨hbi1, hbi2⟩ := hbi
  obtain ⟨hbj1, hbj2⟩ := hbj
  have hA : Blk ((w.alloc (.cells #[ak, ap, akey, .int .i64 ai, .int .i64 aj, ann, a0, a1, a2, a3, a4, as_] 29)).alloc (.cells #[U8 bk, p, key, .int .i64 bi, .int .i64 bj, nn, v0, v1, v2, v3, v4, s] 29)) w.heap.size 29 #[ak, ap, akey, .int .i64 ai, .int .i64 aj, ann, a0, a1, a2, a3, a4, as_] := (Blk.new _ _ _).alloc _
  have hB : Blk ((w.alloc (.cells #[ak, ap, akey, .int .i64 ai, .int .i64 aj, ann, a0, a1, a2, a3, a4, as_] 29)).alloc (.cells #[U8 bk, p, key, .int .i64 bi, .int .i64 bj, nn, v0, v1, v2, v3, v4, s] 29)) (w.heap.size + 1) 29 #[U8 bk, p, key, .int .i64 bi, .int .i64 bj, nn, v0, v1, v2, v3, v4, s] := by
    have := Blk.new (w.alloc (.cells #[ak, ap, akey, .int .i64 ai, .int .i64 aj, ann, a0, a1, a2, a3, a4, as_] 29)) 29 #[U8 bk, p, key, .int .i64 bi, .int .i64 bj, nn, v0, v1, v2, v3, v4, s]
    rwa [World.size_alloc] at this
  have hE1 : Ext w ((w.alloc (.cells #[ak, ap, akey, .int .i64 ai, .int .i64 aj, ann, a0, a1, a2, a3, a4, as_] 29)).alloc (.cells #[U8 bk, p, key, .int .i64 bi, .int .i64 bj, nn, v0, v1, v2, v3, v4, s] 29)) := ((Keep.refl _ _).alloc _).alloc _
  have HA := hid hA
  have HB := hid hB
  have HE1 := hid hE1
  have HSA := hid (show Sm ai from ⟨hai1, hai2⟩)
  have HSAJ := hid (show Sm aj from ⟨haj1, haj2⟩)
  have HSB := hid (show Sm bi from ⟨hbi1, hbi2⟩)
  have HSBJ := hid (show Sm bj from ⟨hbj1, hbj2⟩)
  clear hA hB hE1
  by_cases he : ai = bi
  · have he2 : (bi == bi) = true := by simp
    rcases kind_cases bk with rfl | rfl | rfl | rfl | ⟨h0, h4, h5, h6, h7⟩
    case' inr.inr.inr.inr => have HK := hid (show bk ≠ 4 ∧ bk ≠ 5 ∧ bk ≠ 6 ∧ bk ≠ 7 from by simp [knownL] at h0; exact ⟨h0.1.1.1, h0.1.1.2, h0.1.2, h0.2⟩)
    all_goals
      cases left
      all_goals
        subst he
        go_enter Try.func30, Try.ntmps30
        go_wp2_with (first
          | (go_at_call 44; refine (target_any _ _ _ _ _ _ _ _ _ _ _ _ _ _ _ _ _ _ _ _ _ _ _ _ _ _ HSA.out HSAJ.out HSB.out HSBJ.out).mono ?_; rintro e w1 ⟨rfl, hT⟩; have hA1 := HA.out.keep hT id; have hB1 := HB.out.keep hT id; have HA1 := hid hA1; have HB1 := hid hB1; have HT := hid hT;
             have qa0 := hA1.cell 0; have qa1 := hA1.cell 1; have qa2 := hA1.cell 2; have qa3 := hA1.cell 3; have qa4 := hA1.cell 4; have qa5 := hA1.cell 5; have qa6 := hA1.cell 6; have qa7 := hA1.cell 7; have qa8 := hA1.cell 8; have qa9 := hA1.cell 9; have qa10 := hA1.cell 10; have qa11 := hA1.cell 11;
             have qb0 := hB1.cell 0; have qb1 := hB1.cell 1; have qb2 := hB1.cell 2; have qb3 := hB1.cell 3; have qb4 := hB1.cell 4; have qb5 := hB1.cell 5; have qb6 := hB1.cell 6; have qb7 := hB1.cell 7; have qb8 := hB1.cell 8; have qb9 := hB1.cell 9; have qb10 := hB1.cell 10; have qb11 := hB1.cell 11;
             have f3 := hA1.frozen 3; have f4 := hA1.frozen 4;
             simp at qa0 qa1 qa2 qa3 qa4 qa5 qa6 qa7 qa8 qa9 qa10 qa11 qb0 qb1 qb2 qb3 qb4 qb5 qb6 qb7 qb8 qb9 qb10 qb11; clear hA1 hB1 hT)
          | (go_at_call 22; refine (at_any _ _ _ _ _ _ _ _ _ _ _ _ _ _ HSA.out HSB.out HSBJ.out).mono ?_; rintro e w2 ⟨rfl, hT2⟩; have hA2 := HA1.out.keep hT2 id; have HT2 := hid hT2;
             have qa0 := hA2.cell 0; have qa1 := hA2.cell 1; have qa2 := hA2.cell 2; have qa3 := hA2.cell 3; have qa4 := hA2.cell 4; have qa5 := hA2.cell 5; have qa6 := hA2.cell 6; have qa7 := hA2.cell 7; have qa8 := hA2.cell 8; have qa9 := hA2.cell 9; have qa10 := hA2.cell 10; have qa11 := hA2.cell 11;
             have f3 := hA2.frozen 3; have f4 := hA2.frozen 4;
             simp at qa0 qa1 qa2 qa3 qa4 qa5 qa6 qa7 qa8 qa9 qa10 qa11; clear hA2 hT2))
        go_ret
    all_goals first
      | exact comp_none _ _ _ _ _ _ _ _ _ _ (by simp [moveL]; done) HE1.out
      | exact comp_some _ _ _ _ _ _ _ _ _ _ (by first | (simp [moveL]; done) | (obtain ⟨k4, k5, k6, k7⟩ := HK.out; simp [moveL, k4, k5, k6, k7]; done)) (by simp) (ext_own ((HE1.out.ext HT.out).ext HT2.out) (Nat.le_refl _) (((Keep.refl (· = w.heap.size) _).set1 3 _).set1 4 _))
      | exact comp_some _ _ _ _ _ _ _ _ _ _ (by first | (simp [moveL]; done) | (obtain ⟨k4, k5, k6, k7⟩ := HK.out; simp [moveL, k4, k5, k6, k7]; done)) (by simp) (ext_own (HE1.out.ext HT.out) (Nat.le_refl _) ((Keep.refl (· = w.heap.size) _).set1 4 _))
      | exact comp_some _ _ _ _ _ _ _ _ _ _ (by first | (simp [moveL]; done) | (obtain ⟨k4, k5, k6, k7⟩ := HK.out; simp [moveL, k4, k5, k6, k7]; done)) (by simp) (((Keep.refl _ _).alloc _).alloc _)
  · have he' : (ai == bi) = false := by simpa using he
    have HNE := hid he
    clear he
    rcases kind_cases bk with rfl | rfl | rfl | rfl | ⟨h0, h4, h5, h6, h7⟩
    case' inr.inr.inr.inr => have HK := hid (show bk ≠ 4 ∧ bk ≠ 5 ∧ bk ≠ 6 ∧ bk ≠ 7 from by simp [knownL] at h0; exact ⟨h0.1.1.1, h0.1.1.2, h0.1.2, h0.2⟩)
    all_goals
      cases left
      all_goals
        go_enter Try.func30, Try.ntmps30
        go_wp2_with (first
          | (go_at_call 44; refine (target_any _ _ _ _ _ _ _ _ _ _ _ _ _ _ _ _ _ _ _ _ _ _ _ _ _ _ HSA.out HSAJ.out HSB.out HSBJ.out).mono ?_; rintro e w1 ⟨rfl, hT⟩; have hA1 := HA.out.keep hT id; have hB1 := HB.out.keep hT id; have HA1 := hid hA1; have HB1 := hid hB1; have HT := hid hT;
             have qa0 := hA1.cell 0; have qa1 := hA1.cell 1; have qa2 := hA1.cell 2; have qa3 := hA1.cell 3; have qa4 := hA1.cell 4; have qa5 := hA1.cell 5; have qa6 := hA1.cell 6; have qa7 := hA1.cell 7; have qa8 := hA1.cell 8; have qa9 := hA1.cell 9; have qa10 := hA1.cell 10; have qa11 := hA1.cell 11;
             have qb0 := hB1.cell 0; have qb1 := hB1.cell 1; have qb2 := hB1.cell 2; have qb3 := hB1.cell 3; have qb4 := hB1.cell 4; have qb5 := hB1.cell 5; have qb6 := hB1.cell 6; have qb7 := hB1.cell 7; have qb8 := hB1.cell 8; have qb9 := hB1.cell 9; have qb10 := hB1.cell 10; have qb11 := hB1.cell 11;
             have f3 := hA1.frozen 3; have f4 := hA1.frozen 4;
             simp at qa0 qa1 qa2 qa3 qa4 qa5 qa6 qa7 qa8 qa9 qa10 qa11 qb0 qb1 qb2 qb3 qb4 qb5 qb6 qb7 qb8 qb9 qb10 qb11; clear hA1 hB1 hT)
          | (go_at_call 22; refine (at_any _ _ _ _ _ _ _ _ _ _ _ _ _ _ HSA.out HSB.out HSBJ.out).mono ?_; rintro e w2 ⟨rfl, hT2⟩; have hA2 := HA1.out.keep hT2 id; have HT2 := hid hT2;
             have qa0 := hA2.cell 0; have qa1 := hA2.cell 1; have qa2 := hA2.cell 2; have qa3 := hA2.cell 3; have qa4 := hA2.cell 4; have qa5 := hA2.cell 5; have qa6 := hA2.cell 6; have qa7 := hA2.cell 7; have qa8 := hA2.cell 8; have qa9 := hA2.cell 9; have qa10 := hA2.cell 10; have qa11 := hA2.cell 11;
             have f3 := hA2.frozen 3; have f4 := hA2.frozen 4;
             simp at qa0 qa1 qa2 qa3 qa4 qa5 qa6 qa7 qa8 qa9 qa10 qa11; clear hA2 hT2))
        go_ret
    all_goals first
      | exact comp_none _ _ _ _ _ _ _ _ _ _ (by simp [moveL, HNE.out]; done) HE1.out
      | exact comp_some _ _ _ _ _ _ _ _ _ _ (by first | (simp [moveL, HNE.out]; done) | (obtain ⟨k4, k5, k6, k7⟩ := HK.out; simp [moveL, k4, k5, k6, k7, HNE.out]; done)) (by simp) (ext_own ((HE1.out.ext HT.out).ext HT2.out) (Nat.le_refl _) (((Keep.refl (· = w.heap.size) _).set1 3 _).set1 4 _))
      | exact comp_some _ _ _ _ _ _ _ _ _ _ (by first | (simp [moveL, HNE.out]; done) | (obtain ⟨k4, k5, k6, k7⟩ := HK.out; simp [moveL, k4, k5, k6, k7, HNE.out]; done)) (by simp) (ext_own (HE1.out.ext HT.out) (Nat.le_refl _) ((Keep.refl (· = w.heap.size) _).set1 4 _))
      | exact comp_some _ _ _ _ _ _ _ _ _ _ (by first | (simp [moveL, HNE.out]; done) | (obtain ⟨k4, k5, k6, k7⟩ := HK.out; simp [moveL, k4, k5, k6, k7, HNE.out]; done)) (by simp) (((Keep.refl _ _).alloc _).alloc _)
end Go.Proofs.Ytimhfkllamimeaa
