/- SeqB, SeqC, SeqD, LayRC, TextA: laid together. -/
import Derived.Test.YtioplgfopillnaaDoorTiB13
import Derived.Deep.QuietTactic
import Derived.BigQuiet
import Derived.IntWalk
import Derived.Shelf.Utf8.RuneCount
import Derived.Ground.NamesProg
import Derived.Test.YtioplgfopillnaaDoorProg
import Derived.Test.YtioplgfopillnaaDoorTiB2
import Derived.Test.YtioplgfopillnaaDoorTiB4
import Derived.Lib.MinMax
/- seq: gap and target by contract. -/
set_option linter.unusedSimpArgs false
set_option linter.unusedVariables false
namespace Go.Proofs.YtioplgfopillnaaDoor
open Go.RowKit
set_option linter.unusedVariables false

theorem quiet_add_left {P : Program} {f : FuncId} {args : Array Value} {w : World} {a n : Nat} {v : Value}
    (h : Calls P f args (w.drewN (a + n)) fun e w' => e = .returned v ∧ w.drewN (a + n) = w') :
    Calls P f args (w.drewN (a + n)) fun e w'' => e = .returned v ∧ ∃ m, w'' = w.drewN (a + m) :=
  h.mono fun _ _ ⟨he, hm⟩ => ⟨he, n, hm.symm⟩
theorem quiet_left {P : Program} {f : FuncId} {args : Array Value} {w : World} {n : Nat} {v : Value}
    (h : Calls P f args (w.drewN n) fun e w' => e = .returned v ∧ w.drewN n = w') : Calls P f args (w.drewN n) fun e w'' => e = .returned v ∧ ∃ m, w'' = w.drewN m :=
  h.mono fun _ _ ⟨he, hm⟩ => ⟨he, n, hm.symm⟩
theorem ext_drewN (w : World) (n : Nat) : Ext w (w.drewN n) := by
  induction n with
  | zero => exact Keep.refl _ _
  | succ n ih => exact Keep.drew ih

theorem ext_drewN_of {a w : World} (n : Nat) (h : Ext a w) : Ext a (w.drewN n) := h.ext (ext_drewN w n)

def gapL (k : Int) (bk : UInt8) (bi bj : Int) (left : Bool) : Int :=
  if bk = 4 then k + up bi k (!left)
  else if bk = 5 then k - bl bi k
  else if bk = 7 then (k - bl bi k) + up bj (k - bl bi k) (!left)
  else k
def targetL (ai aj : Int) (bk : UInt8) (bi bj : Int) (left : Bool) : Int :=
  if bk = 4 then aj + up (bi - bl ai bi) aj (!left)
  else if bk = 5 then aj - bl (bi - bl ai bi) aj
  else if bk = 7 then (aj - bl (bi - bl ai bi) aj) + up (bj - bl (ai - bl bi ai) bj) (aj - bl (bi - bl ai bi) aj) (!left)
  else aj

set_option maxHeartbeats 1600000 in
theorem gap_any (bk : UInt8) (p key nn v0 v1 v2 v3 v4 s : Value) (k bi bj : Int) (left : Bool) (w : World) (hk : Sm k) (hbi : Sm bi) (hbj : Sm bj) :
    Calls Tryd.prog 82 #[.int .i64 k, cmpV (U8 bk) p key bi bj nn v0 v1 v2 v3 v4 s, .bool left] w fun e w' => e = .returned (.int .i64 (gapL k bk bi bj left)) ∧ Ext w w' := by
  obtain ⟨hk1, hk2⟩ := hk
  have hu1 := up_bd bi k (!left)
  have hb1 := bl_bd bi k
  have hu2 := up_bd bj (k - bl bi k) (!left)
  rcases kind_cases bk with rfl | rfl | rfl | rfl | ⟨h0, h4, h5, h6, h7⟩
  case' inr.inr.inr.inr => have HK := hid (show bk ≠ 4 ∧ bk ≠ 5 ∧ bk ≠ 6 ∧ bk ≠ 7 from by simp [knownL] at h0; exact ⟨h0.1.1.1, h0.1.1.2, h0.1.2, h0.2⟩)
  all_goals
    go_enter Tryd.func82, Tryd.ntmps82
    go_wp2_with (first | (go_at_call 80; refine (below_any _ _ _).mono ?_; rintro e w' ⟨rfl, rfl⟩) | (go_at_call 79; refine (upto_any _ _ _ _).mono ?_; rintro e w' ⟨rfl, rfl⟩))
    go_ret
    first | (obtain ⟨k4, k5, k6, k7⟩ := HK.out; exact ⟨by simp [gapL, k4, k5, k6, k7], (Keep.refl _ _).alloc _⟩) | exact ⟨by simp [gapL], (Keep.refl _ _).alloc _⟩

set_option maxHeartbeats 3200000 in
theorem target_any (ak : Value) (bk : UInt8) (ap akey ann a0 a1 a2 a3 a4 as_ p key nn v0 v1 v2 v3 v4 s : Value) (ai aj bi bj : Int) (left : Bool) (w : World) (hai : Sm ai) (haj : Sm aj) (hbi : Sm bi) (hbj : Sm bj) :
    Calls Tryd.prog 97 #[cmpV ak ap akey ai aj ann a0 a1 a2 a3 a4 as_, cmpV (U8 bk) p key bi bj nn v0 v1 v2 v3 v4 s, .bool left] w fun e w' => e = .returned (.int .i64 (targetL ai aj bk bi bj left)) ∧ Ext w w' := by
  obtain ⟨hai1, hai2⟩ := hai
  obtain ⟨haj1, haj2⟩ := haj
  obtain ⟨hbi1, hbi2⟩ := hbi
  obtain ⟨hbj1, hbj2⟩ := hbj
  have hb1 := bl_bd ai bi
  have hb2 := bl_bd bi ai
  have hb3 := bl_bd (bi - bl ai bi) aj
  have hb4 := bl_bd (ai - bl bi ai) bj
  have hu1 := up_bd (bi - bl ai bi) aj (!left)
  have hu2 := up_bd (bj - bl (ai - bl bi ai) bj) (aj - bl (bi - bl ai bi) aj) (!left)
  have e1 : IntKind.i64.wrap (bi - bl ai bi) = bi - bl ai bi := IntWalk.i64_in _ (by omega)
  have e2 : IntKind.i64.wrap (ai - bl bi ai) = ai - bl bi ai := IntWalk.i64_in _ (by omega)
  have e3 : IntKind.i64.wrap (aj - bl (bi - bl ai bi) aj) = aj - bl (bi - bl ai bi) aj := IntWalk.i64_in _ (by omega)
  have e4 : IntKind.i64.wrap (bj - bl (ai - bl bi ai) bj) = bj - bl (ai - bl bi ai) bj := IntWalk.i64_in _ (by omega)
  have e5 : IntKind.i64.wrap (aj + up (bi - bl ai bi) aj (!left)) = aj + up (bi - bl ai bi) aj (!left) := IntWalk.i64_in _ (by omega)
  rcases kind_cases bk with rfl | rfl | rfl | rfl | ⟨h0, h4, h5, h6, h7⟩
  case' inr.inr.inr.inr => have HK := hid (show bk ≠ 4 ∧ bk ≠ 5 ∧ bk ≠ 6 ∧ bk ≠ 7 from by simp [knownL] at h0; exact ⟨h0.1.1.1, h0.1.1.2, h0.1.2, h0.2⟩)
  all_goals
    go_enter Tryd.func97, Tryd.ntmps97
    go_wp2_with fail
    go_quiet ((go_at_call 80; exact quiet_left (below_any _ _ _)))
    go_wp2_with (first | (go_at_call 80; refine (below_any _ _ _).mono ?_; rintro e w' ⟨rfl, rfl⟩) | (go_at_call 79; refine (upto_any _ _ _ _).mono ?_; rintro e w' ⟨rfl, rfl⟩))
    all_goals repeat (go_quiet (first | (go_at_call 80; exact quiet_add_left (below_any _ _ _)) | (go_at_call 79; exact quiet_add_left (upto_any _ _ _ _))); go_wp2_with (first | (go_at_call 80; refine (below_any _ _ _).mono ?_; rintro e w' ⟨rfl, rfl⟩) | (go_at_call 79; refine (upto_any _ _ _ _).mono ?_; rintro e w' ⟨rfl, rfl⟩)))
    all_goals go_ret
    all_goals first | (obtain ⟨k4, k5, k6, k7⟩ := HK.out; refine ⟨by simp [targetL, k4, k5, k6, k7], ?_⟩) | refine ⟨by simp [targetL], ?_⟩
  all_goals (repeat refine ext_drewN_of _ ?_); exact ((Keep.refl _ _).alloc _).alloc _
end Go.Proofs.YtioplgfopillnaaDoor

/- seq: move by contract. -/
set_option linter.unusedSimpArgs false
set_option linter.unusedVariables false
namespace Go.Proofs.YtioplgfopillnaaDoor
open Go.RowKit
set_option linter.unusedVariables false

def moveL (ai aj : Int) (bk : UInt8) (bi bj : Int) (left : Bool) : Option (Int × Int) :=
  if ai = bi ∧ bk = 5 then none
  else if ai = bi ∧ bk = 7 ∧ left = false then none
  else if ai = bi ∧ bk = 7 then some (bj, aj)
  else some (if bk = 6 then ai else (atL bk bi bj ai).1, targetL ai aj bk bi bj left)
/-- No component, or one. -/
def OneAt (w w' : World) (v : Value) : Option (Array Value) → Prop
  | none => v = .slice none 0 0
  | some cs => ∃ g, v = .slice (some ⟨g, 0, none⟩) 1 1 ∧ w.heap.size ≤ g ∧ Blk w' g 33 cs
def CompIs (k p key nn v0 v1 v2 v3 v4 s : Value) (w : World) (r : Option (Int × Int)) (e : Ending) (w' : World) : Prop :=
  ∃ v, e = .returned v ∧ Ext w w' ∧ OneAt w w' v (r.map fun x => #[k, p, key, .int .i64 x.1, .int .i64 x.2, nn, v0, v1, v2, v3, v4, s])
theorem comp_none (k p key nn v0 v1 v2 v3 v4 s : Value) {w w' : World} {r : Option (Int × Int)} (hr : r = none) (hE : Ext w w') : CompIs k p key nn v0 v1 v2 v3 v4 s w r (.returned (.slice none 0 0)) w' :=
  ⟨_, rfl, hE, by subst hr; rfl⟩
theorem comp_some (k p key nn v0 v1 v2 v3 v4 s : Value) {w W : World} {r : Option (Int × Int)} {g : Nat} {i j : Int} (hr : r = some (i, j)) (hg : g = W.heap.size) (hE : Ext w W) :
    CompIs k p key nn v0 v1 v2 v3 v4 s w r (.returned (.slice (some ⟨g, 0, none⟩) 1 1)) (W.alloc (.cells #[k, p, key, .int .i64 i, .int .i64 j, nn, v0, v1, v2, v3, v4, s] 33)) :=
  ⟨_, rfl, hE.alloc _, by subst hr hg; exact ⟨_, rfl, hE.size, Blk.new _ _ _⟩⟩
theorem ext_own {w w1 w2 : World} {g : Nat} (h : Ext w w1) (hg : w.heap.size ≤ g) (hk : Keep (· = g) w1 w2) : Ext w w2 := h.trans hk (fun q hq e => by omega)
set_option maxHeartbeats 3200000 in
theorem move_any (bk : UInt8) (ak ap akey ann a0 a1 a2 a3 a4 as_ p key nn v0 v1 v2 v3 v4 s : Value) (ai aj bi bj : Int) (left : Bool) (w : World) (hai : Sm ai) (haj : Sm aj) (hbi : Sm bi) (hbj : Sm bj) :
    Calls Tryd.prog 83 #[cmpV ak ap akey ai aj ann a0 a1 a2 a3 a4 as_, cmpV (U8 bk) p key bi bj nn v0 v1 v2 v3 v4 s, .bool left] w (CompIs ak ap akey ann a0 a1 a2 a3 a4 as_ w (moveL ai aj bk bi bj left)) := by
  obtain ⟨hai1, hai2⟩ := hai
  obtain ⟨haj1, haj2⟩ := haj
  obtain ⟨hbi1, hbi2⟩ := hbi
  obtain ⟨hbj1, hbj2⟩ := hbj
  have hA : Blk ((w.alloc (.cells #[ak, ap, akey, .int .i64 ai, .int .i64 aj, ann, a0, a1, a2, a3, a4, as_] 33)).alloc (.cells #[U8 bk, p, key, .int .i64 bi, .int .i64 bj, nn, v0, v1, v2, v3, v4, s] 33)) w.heap.size 33 #[ak, ap, akey, .int .i64 ai, .int .i64 aj, ann, a0, a1, a2, a3, a4, as_] := (Blk.new _ _ _).alloc _
  have hB : Blk ((w.alloc (.cells #[ak, ap, akey, .int .i64 ai, .int .i64 aj, ann, a0, a1, a2, a3, a4, as_] 33)).alloc (.cells #[U8 bk, p, key, .int .i64 bi, .int .i64 bj, nn, v0, v1, v2, v3, v4, s] 33)) (w.heap.size + 1) 33 #[U8 bk, p, key, .int .i64 bi, .int .i64 bj, nn, v0, v1, v2, v3, v4, s] := by
    have := Blk.new (w.alloc (.cells #[ak, ap, akey, .int .i64 ai, .int .i64 aj, ann, a0, a1, a2, a3, a4, as_] 33)) 33 #[U8 bk, p, key, .int .i64 bi, .int .i64 bj, nn, v0, v1, v2, v3, v4, s]
    rwa [World.size_alloc] at this
  have hE1 : Ext w ((w.alloc (.cells #[ak, ap, akey, .int .i64 ai, .int .i64 aj, ann, a0, a1, a2, a3, a4, as_] 33)).alloc (.cells #[U8 bk, p, key, .int .i64 bi, .int .i64 bj, nn, v0, v1, v2, v3, v4, s] 33)) := ((Keep.refl _ _).alloc _).alloc _
  have HA := hid hA
  have HB := hid hB
  have HE1 := hid hE1
  have HSA := hid (show Sm ai from ⟨hai1, hai2⟩)
  have HSAJ := hid (show Sm aj from ⟨haj1, haj2⟩)
  have HSB := hid (show Sm bi from ⟨hbi1, hbi2⟩)
  have HSBJ := hid (show Sm bj from ⟨hbj1, hbj2⟩)
  clear hA hB hE1
  by_cases he : ai = bi
  · have he2 : (bi == bi) = true := by simp
    rcases kind_cases bk with rfl | rfl | rfl | rfl | ⟨h0, h4, h5, h6, h7⟩
    case' inr.inr.inr.inr => have HK := hid (show bk ≠ 4 ∧ bk ≠ 5 ∧ bk ≠ 6 ∧ bk ≠ 7 from by simp [knownL] at h0; exact ⟨h0.1.1.1, h0.1.1.2, h0.1.2, h0.2⟩)
    all_goals
      cases left
      all_goals
        subst he
        go_enter Tryd.func83, Tryd.ntmps83
        go_wp2_with (first
          | (go_at_call 97; refine (target_any _ _ _ _ _ _ _ _ _ _ _ _ _ _ _ _ _ _ _ _ _ _ _ _ _ _ HSA.out HSAJ.out HSB.out HSBJ.out).mono ?_; rintro e w1 ⟨rfl, hT⟩; have hA1 := HA.out.keep hT id; have hB1 := HB.out.keep hT id; have HA1 := hid hA1; have HB1 := hid hB1; have HT := hid hT;
             have qa0 := hA1.cell 0; have qa1 := hA1.cell 1; have qa2 := hA1.cell 2; have qa3 := hA1.cell 3; have qa4 := hA1.cell 4; have qa5 := hA1.cell 5; have qa6 := hA1.cell 6; have qa7 := hA1.cell 7; have qa8 := hA1.cell 8; have qa9 := hA1.cell 9; have qa10 := hA1.cell 10; have qa11 := hA1.cell 11;
             have qb0 := hB1.cell 0; have qb1 := hB1.cell 1; have qb2 := hB1.cell 2; have qb3 := hB1.cell 3; have qb4 := hB1.cell 4; have qb5 := hB1.cell 5; have qb6 := hB1.cell 6; have qb7 := hB1.cell 7; have qb8 := hB1.cell 8; have qb9 := hB1.cell 9; have qb10 := hB1.cell 10; have qb11 := hB1.cell 11;
             have f3 := hA1.frozen 3; have f4 := hA1.frozen 4;
             simp at qa0 qa1 qa2 qa3 qa4 qa5 qa6 qa7 qa8 qa9 qa10 qa11 qb0 qb1 qb2 qb3 qb4 qb5 qb6 qb7 qb8 qb9 qb10 qb11; clear hA1 hB1 hT)
          | (go_at_call 56; refine (at_any _ _ _ _ _ _ _ _ _ _ _ _ _ _ HSA.out HSB.out HSBJ.out).mono ?_; rintro e w2 ⟨rfl, hT2⟩; have hA2 := HA1.out.keep hT2 id; have HT2 := hid hT2;
             have qa0 := hA2.cell 0; have qa1 := hA2.cell 1; have qa2 := hA2.cell 2; have qa3 := hA2.cell 3; have qa4 := hA2.cell 4; have qa5 := hA2.cell 5; have qa6 := hA2.cell 6; have qa7 := hA2.cell 7; have qa8 := hA2.cell 8; have qa9 := hA2.cell 9; have qa10 := hA2.cell 10; have qa11 := hA2.cell 11;
             have f3 := hA2.frozen 3; have f4 := hA2.frozen 4;
             simp at qa0 qa1 qa2 qa3 qa4 qa5 qa6 qa7 qa8 qa9 qa10 qa11; clear hA2 hT2))
        go_ret
    all_goals first
      | exact comp_none _ _ _ _ _ _ _ _ _ _ (by simp [moveL]; done) HE1.out
      | exact comp_some _ _ _ _ _ _ _ _ _ _ (by first | (simp [moveL]; done) | (obtain ⟨k4, k5, k6, k7⟩ := HK.out; simp [moveL, k4, k5, k6, k7]; done)) (by simp) (ext_own ((HE1.out.ext HT.out).ext HT2.out) (Nat.le_refl _) (((Keep.refl (· = w.heap.size) _).set1 3 _).set1 4 _))
      | exact comp_some _ _ _ _ _ _ _ _ _ _ (by first | (simp [moveL]; done) | (obtain ⟨k4, k5, k6, k7⟩ := HK.out; simp [moveL, k4, k5, k6, k7]; done)) (by simp) (ext_own (HE1.out.ext HT.out) (Nat.le_refl _) ((Keep.refl (· = w.heap.size) _).set1 4 _))
      | exact comp_some _ _ _ _ _ _ _ _ _ _ (by first | (simp [moveL]; done) | (obtain ⟨k4, k5, k6, k7⟩ := HK.out; simp [moveL, k4, k5, k6, k7]; done)) (by simp) (((Keep.refl _ _).alloc _).alloc _)
  · have he' : (ai == bi) = false := by simpa using he
    have HNE := hid he
    clear he
    rcases kind_cases bk with rfl | rfl | rfl | rfl | ⟨h0, h4, h5, h6, h7⟩
    case' inr.inr.inr.inr => have HK := hid (show bk ≠ 4 ∧ bk ≠ 5 ∧ bk ≠ 6 ∧ bk ≠ 7 from by simp [knownL] at h0; exact ⟨h0.1.1.1, h0.1.1.2, h0.1.2, h0.2⟩)
    all_goals
      cases left
      all_goals
        go_enter Tryd.func83, Tryd.ntmps83
        go_wp2_with (first
          | (go_at_call 97; refine (target_any _ _ _ _ _ _ _ _ _ _ _ _ _ _ _ _ _ _ _ _ _ _ _ _ _ _ HSA.out HSAJ.out HSB.out HSBJ.out).mono ?_; rintro e w1 ⟨rfl, hT⟩; have hA1 := HA.out.keep hT id; have hB1 := HB.out.keep hT id; have HA1 := hid hA1; have HB1 := hid hB1; have HT := hid hT;
             have qa0 := hA1.cell 0; have qa1 := hA1.cell 1; have qa2 := hA1.cell 2; have qa3 := hA1.cell 3; have qa4 := hA1.cell 4; have qa5 := hA1.cell 5; have qa6 := hA1.cell 6; have qa7 := hA1.cell 7; have qa8 := hA1.cell 8; have qa9 := hA1.cell 9; have qa10 := hA1.cell 10; have qa11 := hA1.cell 11;
             have qb0 := hB1.cell 0; have qb1 := hB1.cell 1; have qb2 := hB1.cell 2; have qb3 := hB1.cell 3; have qb4 := hB1.cell 4; have qb5 := hB1.cell 5; have qb6 := hB1.cell 6; have qb7 := hB1.cell 7; have qb8 := hB1.cell 8; have qb9 := hB1.cell 9; have qb10 := hB1.cell 10; have qb11 := hB1.cell 11;
             have f3 := hA1.frozen 3; have f4 := hA1.frozen 4;
             simp at qa0 qa1 qa2 qa3 qa4 qa5 qa6 qa7 qa8 qa9 qa10 qa11 qb0 qb1 qb2 qb3 qb4 qb5 qb6 qb7 qb8 qb9 qb10 qb11; clear hA1 hB1 hT)
          | (go_at_call 56; refine (at_any _ _ _ _ _ _ _ _ _ _ _ _ _ _ HSA.out HSB.out HSBJ.out).mono ?_; rintro e w2 ⟨rfl, hT2⟩; have hA2 := HA1.out.keep hT2 id; have HT2 := hid hT2;
             have qa0 := hA2.cell 0; have qa1 := hA2.cell 1; have qa2 := hA2.cell 2; have qa3 := hA2.cell 3; have qa4 := hA2.cell 4; have qa5 := hA2.cell 5; have qa6 := hA2.cell 6; have qa7 := hA2.cell 7; have qa8 := hA2.cell 8; have qa9 := hA2.cell 9; have qa10 := hA2.cell 10; have qa11 := hA2.cell 11;
             have f3 := hA2.frozen 3; have f4 := hA2.frozen 4;
             simp at qa0 qa1 qa2 qa3 qa4 qa5 qa6 qa7 qa8 qa9 qa10 qa11; clear hA2 hT2))
        go_ret
    all_goals first
      | exact comp_none _ _ _ _ _ _ _ _ _ _ (by simp [moveL, HNE.out]; done) HE1.out
      | exact comp_some _ _ _ _ _ _ _ _ _ _ (by first | (simp [moveL, HNE.out]; done) | (obtain ⟨k4, k5, k6, k7⟩ := HK.out; simp [moveL, k4, k5, k6, k7, HNE.out]; done)) (by simp) (ext_own ((HE1.out.ext HT.out).ext HT2.out) (Nat.le_refl _) (((Keep.refl (· = w.heap.size) _).set1 3 _).set1 4 _))
      | exact comp_some _ _ _ _ _ _ _ _ _ _ (by first | (simp [moveL, HNE.out]; done) | (obtain ⟨k4, k5, k6, k7⟩ := HK.out; simp [moveL, k4, k5, k6, k7, HNE.out]; done)) (by simp) (ext_own (HE1.out.ext HT.out) (Nat.le_refl _) ((Keep.refl (· = w.heap.size) _).set1 4 _))
      | exact comp_some _ _ _ _ _ _ _ _ _ _ (by first | (simp [moveL, HNE.out]; done) | (obtain ⟨k4, k5, k6, k7⟩ := HK.out; simp [moveL, k4, k5, k6, k7, HNE.out]; done)) (by simp) (((Keep.refl _ _).alloc _).alloc _)
end Go.Proofs.YtioplgfopillnaaDoor

/- seq.Turn by contract. -/
set_option linter.unusedSimpArgs false
set_option linter.unusedVariables false
namespace Go.Proofs.YtioplgfopillnaaDoor
open Go.RowKit
set_option linter.unusedVariables false

def turnL (ak : UInt8) (ai aj : Int) (bk : UInt8) (bi bj : Int) (left : Bool) : Option (Int × Int) :=
  if knownL ak = false then some (ai, aj)
  else if knownL bk = false then some (ai, aj)
  else if ak = 4 then some (gapL ai bk bi bj left, aj)
  else if ak = 7 then moveL ai aj bk bi bj left
  else if ai = bi ∧ bk = 6 then (if ak = 5 ∨ left = true then some (ai, aj) else none)
  else if (atL bk bi bj ai).2 = true then some ((atL bk bi bj ai).1, aj) else none
theorem CompIs.from_ {k p key nn v0 v1 v2 v3 v4 s : Value} {w w1 w' : World} {r : Option (Int × Int)} {e : Ending} (h : CompIs k p key nn v0 v1 v2 v3 v4 s w1 r e w') (hE : Ext w w1) : CompIs k p key nn v0 v1 v2 v3 v4 s w r e w' := by
  obtain ⟨v, rfl, h1, h2⟩ := h
  refine ⟨v, rfl, hE.ext h1, ?_⟩
  cases r with
  | none => exact h2
  | some x => obtain ⟨g, e, hg, hb⟩ := h2; exact ⟨g, e, Nat.le_trans hE.size hg, hb⟩
theorem CompIs.eq_ {k p key nn v0 v1 v2 v3 v4 s : Value} {w w' : World} {r r' : Option (Int × Int)} {e : Ending} (h : CompIs k p key nn v0 v1 v2 v3 v4 s w r' e w') (hr : r = r') : CompIs k p key nn v0 v1 v2 v3 v4 s w r e w' := hr ▸ h
section
variable {ak bk : UInt8} {ai aj bi bj : Int} {left : Bool}
theorem tL1 (h : knownL ak = false) : turnL ak ai aj bk bi bj left = some (ai, aj) := by simp [turnL, h]
theorem tL2 (h : (!knownL bk) = true) : turnL ak ai aj bk bi bj left = some (ai, aj) := by simp at h; simp [turnL, h]
theorem tL3 (h : (!knownL bk) = false) : turnL 4 ai aj bk bi bj left = some (gapL ai bk bi bj left, aj) := by simp at h; simp [turnL, h, show knownL 4 = true from rfl]
theorem tL4 (h : (!knownL bk) = false) : turnL 7 ai aj bk bi bj left = moveL ai aj bk bi bj left := by simp at h; simp [turnL, h, show knownL 7 = true from rfl]
theorem tL5 : turnL 5 ai aj 6 ai bj left = some (ai, aj) := by simp [turnL, show knownL 5 = true from rfl, show knownL 6 = true from rfl]
theorem tL6 (h : left = true) : turnL 6 ai aj 6 ai bj left = some (ai, aj) := by subst h; simp [turnL, show knownL 6 = true from rfl]
theorem tL7 (h : left = false) : turnL 6 ai aj 6 ai bj left = none := by subst h; simp [turnL, show knownL 6 = true from rfl]
theorem tL8 (h : ak = 5 ∨ ak = 6) (hn : ¬ (ai = bi ∧ bk = 6)) (hk : (!knownL bk) = false) (ha : (!(atL bk bi bj ai).2) = false) : turnL ak ai aj bk bi bj left = some ((atL bk bi bj ai).1, aj) := by
  simp at hk ha
  rcases h with rfl | rfl <;> simp only [turnL, hk, ha, if_neg hn, show knownL 5 = true from rfl, show knownL 6 = true from rfl] <;> simp
theorem tL9 (h : ak = 5 ∨ ak = 6) (hn : ¬ (ai = bi ∧ bk = 6)) (hk : (!knownL bk) = false) (ha : (!(atL bk bi bj ai).2) = true) : turnL ak ai aj bk bi bj left = none := by
  simp at hk ha
  rcases h with rfl | rfl <;> simp only [turnL, hk, ha, if_neg hn, show knownL 5 = true from rfl, show knownL 6 = true from rfl] <;> simp
end
set_option maxHeartbeats 6400000 in
theorem turn_any (ak bk : UInt8) (ap akey ann a0 a1 a2 a3 a4 as_ p key nn v0 v1 v2 v3 v4 s : Value) (ai aj bi bj : Int) (left : Bool) (w : World) (hai : Sm ai) (haj : Sm aj) (hbi : Sm bi) (hbj : Sm bj) :
    Calls Tryd.prog 57 #[cmpV (U8 ak) ap akey ai aj ann a0 a1 a2 a3 a4 as_, cmpV (U8 bk) p key bi bj nn v0 v1 v2 v3 v4 s, .bool left] w (CompIs (U8 ak) ap akey ann a0 a1 a2 a3 a4 as_ w (turnL ak ai aj bk bi bj left)) := by
  have hA : Blk ((w.alloc (.cells #[U8 ak, ap, akey, .int .i64 ai, .int .i64 aj, ann, a0, a1, a2, a3, a4, as_] 33)).alloc (.cells #[U8 bk, p, key, .int .i64 bi, .int .i64 bj, nn, v0, v1, v2, v3, v4, s] 33)) w.heap.size 33 #[U8 ak, ap, akey, .int .i64 ai, .int .i64 aj, ann, a0, a1, a2, a3, a4, as_] := (Blk.new _ _ _).alloc _
  have hB : Blk ((w.alloc (.cells #[U8 ak, ap, akey, .int .i64 ai, .int .i64 aj, ann, a0, a1, a2, a3, a4, as_] 33)).alloc (.cells #[U8 bk, p, key, .int .i64 bi, .int .i64 bj, nn, v0, v1, v2, v3, v4, s] 33)) (w.heap.size + 1) 33 #[U8 bk, p, key, .int .i64 bi, .int .i64 bj, nn, v0, v1, v2, v3, v4, s] := by
    have := Blk.new (w.alloc (.cells #[U8 ak, ap, akey, .int .i64 ai, .int .i64 aj, ann, a0, a1, a2, a3, a4, as_] 33)) 33 #[U8 bk, p, key, .int .i64 bi, .int .i64 bj, nn, v0, v1, v2, v3, v4, s]
    rwa [World.size_alloc] at this
  have hE1 : Ext w ((w.alloc (.cells #[U8 ak, ap, akey, .int .i64 ai, .int .i64 aj, ann, a0, a1, a2, a3, a4, as_] 33)).alloc (.cells #[U8 bk, p, key, .int .i64 bi, .int .i64 bj, nn, v0, v1, v2, v3, v4, s] 33)) := ((Keep.refl _ _).alloc _).alloc _
  have HA := hid hA
  have HB := hid hB
  have HT := hid hE1
  have HSA := hid hai
  have HSAJ := hid haj
  have HSB := hid hbi
  have HSBJ := hid hbj
  clear hA hB hE1 hai haj hbi hbj
  have htw : (∃ h : ai = bi, bk = 6) ∨ (∃ h : ai = bi, ((bk.toNat : Int) == 6) = false ∧ bk ≠ 6) ∨ ((ai == bi) = false ∧ ai ≠ bi) := by
    by_cases h : ai = bi
    · by_cases h6 : bk = 6
      · exact .inl ⟨h, h6⟩
      · refine .inr (.inl ⟨h, ?_, h6⟩)
        simp only [beq_eq_false_iff_ne, ne_eq]
        intro e
        apply h6
        apply UInt8.toNat.inj
        simp; omega
    · exact .inr (.inr ⟨by simpa using h, h⟩)
  have he2 : (bi == bi) = true := by simp
  have HTW := hid (show (ai = bi ∧ bk = 6) ∨ ¬(ai = bi ∧ bk = 6) from Classical.em _)
  rcases htw with ⟨rfl, rfl⟩ | ⟨rfl, hne6, hn6⟩ | ⟨hne, hnn⟩
  all_goals
    rcases kind_cases ak with rfl | rfl | rfl | rfl | ⟨h0, h4, h5, h6, h7⟩
    all_goals
      go_enter Tryd.func57, Tryd.ntmps57
      go_wp2_with (first
        | (go_at_call 81; refine (known_any _ _ _ _ _ _ _ _ _ _ _ _ _).mono ?_; rintro e w1 ⟨rfl, hT⟩; have hA1 := HA.out.keep hT id; have HA1 := hid hA1; have hB1 := HB.out.keep hT id; have HB1 := hid hB1; have qa0 := hA1.cell 0; have qa1 := hA1.cell 1; have qa2 := hA1.cell 2; have qa3 := hA1.cell 3; have qa4 := hA1.cell 4; have qa5 := hA1.cell 5; have qa6 := hA1.cell 6; have qa7 := hA1.cell 7; have qa8 := hA1.cell 8; have qa9 := hA1.cell 9; have qa10 := hA1.cell 10; have qa11 := hA1.cell 11; have qb0 := hB1.cell 0; have qb1 := hB1.cell 1; have qb2 := hB1.cell 2; have qb3 := hB1.cell 3; have qb4 := hB1.cell 4; have qb5 := hB1.cell 5; have qb6 := hB1.cell 6; have qb7 := hB1.cell 7; have qb8 := hB1.cell 8; have qb9 := hB1.cell 9; have qb10 := hB1.cell 10; have qb11 := hB1.cell 11; have f3 := hA1.frozen 3; simp at qa0 qa1 qa2 qa3 qa4 qa5 qa6 qa7 qa8 qa9 qa10 qa11 qb0 qb1 qb2 qb3 qb4 qb5 qb6 qb7 qb8 qb9 qb10 qb11; have HT1 := hid (HT.out.ext hT); clear hT hA1)
        | (go_at_call 81; refine (known_any _ _ _ _ _ _ _ _ _ _ _ _ _).mono ?_; rintro e w2 ⟨rfl, hT⟩; have hA2 := HA1.out.keep hT id; have HA2 := hid hA2; have hB2 := HB1.out.keep hT id; have HB2 := hid hB2; have qa0 := hA2.cell 0; have qa1 := hA2.cell 1; have qa2 := hA2.cell 2; have qa3 := hA2.cell 3; have qa4 := hA2.cell 4; have qa5 := hA2.cell 5; have qa6 := hA2.cell 6; have qa7 := hA2.cell 7; have qa8 := hA2.cell 8; have qa9 := hA2.cell 9; have qa10 := hA2.cell 10; have qa11 := hA2.cell 11; have qb0 := hB2.cell 0; have qb1 := hB2.cell 1; have qb2 := hB2.cell 2; have qb3 := hB2.cell 3; have qb4 := hB2.cell 4; have qb5 := hB2.cell 5; have qb6 := hB2.cell 6; have qb7 := hB2.cell 7; have qb8 := hB2.cell 8; have qb9 := hB2.cell 9; have qb10 := hB2.cell 10; have qb11 := hB2.cell 11; have f3 := hA2.frozen 3; simp at qa0 qa1 qa2 qa3 qa4 qa5 qa6 qa7 qa8 qa9 qa10 qa11 qb0 qb1 qb2 qb3 qb4 qb5 qb6 qb7 qb8 qb9 qb10 qb11; have HT2 := hid (HT1.out.ext hT); clear hT hA2)
        | (go_at_call 82; refine (gap_any _ _ _ _ _ _ _ _ _ _ _ _ _ _ _ HSA.out HSB.out HSBJ.out).mono ?_; rintro e w3 ⟨rfl, hT⟩; have hA3 := HA2.out.keep hT id; have HA3 := hid hA3; have qa0 := hA3.cell 0; have qa1 := hA3.cell 1; have qa2 := hA3.cell 2; have qa3 := hA3.cell 3; have qa4 := hA3.cell 4; have qa5 := hA3.cell 5; have qa6 := hA3.cell 6; have qa7 := hA3.cell 7; have qa8 := hA3.cell 8; have qa9 := hA3.cell 9; have qa10 := hA3.cell 10; have qa11 := hA3.cell 11; have f3 := hA3.frozen 3; simp at qa0 qa1 qa2 qa3 qa4 qa5 qa6 qa7 qa8 qa9 qa10 qa11; have HT3 := hid (HT2.out.ext hT); clear hT hA3)
        | (go_at_call 56; refine (at_any _ _ _ _ _ _ _ _ _ _ _ _ _ _ HSA.out HSB.out HSBJ.out).mono ?_; rintro e w3 ⟨rfl, hT⟩; have hA3 := HA2.out.keep hT id; have HA3 := hid hA3; have qa0 := hA3.cell 0; have qa1 := hA3.cell 1; have qa2 := hA3.cell 2; have qa3 := hA3.cell 3; have qa4 := hA3.cell 4; have qa5 := hA3.cell 5; have qa6 := hA3.cell 6; have qa7 := hA3.cell 7; have qa8 := hA3.cell 8; have qa9 := hA3.cell 9; have qa10 := hA3.cell 10; have qa11 := hA3.cell 11; have f3 := hA3.frozen 3; simp at qa0 qa1 qa2 qa3 qa4 qa5 qa6 qa7 qa8 qa9 qa10 qa11; have HT3 := hid (HT2.out.ext hT); clear hT hA3)
        | (go_at_call 83; refine (move_any _ _ _ _ _ _ _ _ _ _ _ _ _ _ _ _ _ _ _ _ _ _ _ _ _ _ HSA.out HSAJ.out HSB.out HSBJ.out).mono ?_; rintro e w3 ⟨v, rfl, hT, hO⟩; have HO := hid (show CompIs _ _ _ _ _ _ _ _ _ _ _ _ _ _ from ⟨v, rfl, hT, hO⟩); clear hT hO))
    all_goals
      go_ret
      first
        | exact comp_some _ _ _ _ _ _ _ _ _ _ (tL1 h0) rfl HT1.out
        | exact comp_some _ _ _ _ _ _ _ _ _ _ (tL2 (by assumption)) rfl HT2.out
        | exact comp_some _ _ _ _ _ _ _ _ _ _ (tL3 (by assumption)) (by simp) (ext_own HT3.out (Nat.le_refl _) ((Keep.refl (· = w.heap.size) _).set1 3 _))
        | exact (HO.out.from_ HT2.out).eq_ (tL4 (by assumption))
        | exact comp_some _ _ _ _ _ _ _ _ _ _ tL5 rfl HT2.out
        | exact comp_some _ _ _ _ _ _ _ _ _ _ (tL6 (by assumption)) rfl HT2.out
        | exact comp_none _ _ _ _ _ _ _ _ _ _ (tL7 (by assumption)) HT2.out
        | exact comp_some _ _ _ _ _ _ _ _ _ _ (tL8 (by first | exact .inl rfl | exact .inr rfl) (by first | exact fun h => hn6 h.2 | exact fun h => hnn h.1) (by assumption) (by assumption)) (by simp) (ext_own HT3.out (Nat.le_refl _) ((Keep.refl (· = w.heap.size) _).set1 3 _))
        | exact comp_none _ _ _ _ _ _ _ _ _ _ (tL9 (by first | exact .inl rfl | exact .inr rfl) (by first | exact fun h => hn6 h.2 | exact fun h => hnn h.1) (by assumption) (by assumption)) HT3.out
end Go.Proofs.YtioplgfopillnaaDoor

/-
  DERIVED: THE SHELF's CONTRACTS AT THIS DUMP, IN PLAIN WORDS (tools/lay-plain.mjs out of 'YtioplgfopillnaaDoorLayRCRaw.lean', which tools/lay-shelf.mjs wrote): THE SAME DECLARATIONS UNDER THE SAME NAMES: 'import', 'namespace', 'open', 'def', 'theorem' AND NOTHING ELSE: no command of the shelf's: FOR A HAND-IN. Each laying: the table of numbers ('.._ren') and one theorem, a field a fact of the dump's own or the kernel's comparison; each contract: ONE APPLICATION.
-/
namespace Go.Proofs
open Go.Shelf
def Tryd.laysRC_ren : Go.Shelf.Ren := ⟨fun | 195 => 104 | n => n, fun | 9 => 9 | 3 => 3 | 0 => 0 | 4 => 4 | n => n, fun | n => n⟩
theorem Tryd.laysRC : Go.Proofs.Lays.n195 Tryd.prog Tryd.laysRC_ren := {
  mixed := by kernel_rfl
  f195 := Tryd.func104.trans (congrArg some (by kernel_rfl))
  t0 := Tryd.underlying0
  a0 := Tryd.isAgg0
  z0 := Tryd.sizeOf0
  v0 := Tryd.zeroValue0
  t3 := Tryd.underlying3
  a3 := Tryd.isAgg3
  z3 := Tryd.sizeOf3
  v3 := Tryd.zeroValue3
  t4 := Tryd.underlying4
  a4 := Tryd.isAgg4
  z4 := Tryd.sizeOf4
  v4 := Tryd.zeroValue4
  t9 := Tryd.underlying9
  a9 := Tryd.isAgg9
  z9 := Tryd.sizeOf9
  v9 := Tryd.zeroValue9 }
end Go.Proofs

/- text: small functions by contract: Len, of, meet, size, known. -/
set_option linter.unusedSimpArgs false
set_option linter.unusedVariables false
namespace Go.Proofs.YtioplgfopillnaaDoor
open Go.RowKit
set_option linter.unusedVariables false

/-- A component's value; what lies behind the opaque cells does not matter here. -/
abbrev tcV (k : Value) (p key : Value) (i : Int) (j : Value) (n : Int) (v0 v1 v2 v3 v4 s : Value) : Value := .agg #[k, p, key, .int .i64 i, j, .int .i64 n, v0, v1, v2, v3, v4, s]
abbrev TCOMP : Nat := 33
abbrev TSPAN : Nat := 115
def tknown (k : UInt8) : Bool := k == 8 || k == 9
theorem tkind_cases (k : UInt8) : k = 8 ∨ k = 9 ∨ (tknown k = false ∧ ((k.toNat : Int) == 8) = false ∧ ((k.toNat : Int) == 9) = false) := by
  by_cases h8 : k = 8
  · exact .inl h8
  by_cases h9 : k = 9
  · exact .inr (.inl h9)
  have hn : ∀ n : Nat, n < 256 → k ≠ UInt8.ofNat n → ((k.toNat : Int) == (n : Int)) = false := fun n hn h => by
    simp only [beq_eq_false_iff_ne, ne_eq]
    intro e
    apply h
    apply UInt8.toNat.inj
    simp; omega
  exact .inr (.inr ⟨by simp [tknown, h8, h9], hn 8 (by omega) h8, hn 9 (by omega) h9⟩)

theorem ext_iter (w : World) (s : ByteArray) (p : Nat) : Ext w (w.iter s p) := by
  unfold World.iter
  exact (Keep.refl _ _).alloc _
theorem tlen_any (s : ByteArray) (hs : s.size ≤ 140737488355328) (w : World) : Calls Tryd.prog 98 #[.string s] w fun e w' => e = .returned (.int .i64 (Lib.runeCount s : Nat)) ∧ Ext w w' := by
  go_enter Tryd.func98, Tryd.ntmps98
  go_wp2_with fail
  refine (Any.utf8_RuneCountInString Tryd.laysRC s w (by omega)).mono ?_
  rintro e w1 ⟨rfl, p, rfl⟩
  have hE := ext_iter w s p
  generalize w.iter s p = w1 at *
  go_wp2
  go_ret
  exact ⟨rfl, hE⟩
theorem tof_any (k p key j v0 v1 v2 v3 v4 s : Value) (i n : Int) (hi : -1152921504606846976 ≤ i ∧ i ≤ 1152921504606846976) (hn : -1152921504606846976 ≤ n ∧ n ≤ 1152921504606846976) (w : World) :
    Calls Tryd.prog 99 #[tcV k p key i j n v0 v1 v2 v3 v4 s] w fun e w' => e = .returned (.agg #[.int .i64 i, .int .i64 (i + n)]) ∧ Ext w w' := by
  go_enter Tryd.func99, Tryd.ntmps99
  go_wp2
  have hE : Ext w ((w.alloc (.cells #[k, p, key, .int .i64 i, j, .int .i64 n, v0, v1, v2, v3, v4, s] TCOMP)).alloc (.cells #[.int .i64 i, .int .i64 (i + n)] TSPAN)) := ((Keep.refl _ _).alloc _).alloc _
  refine bodyPost_ret (v := .agg #[.int .i64 i, .int .i64 (i + n)]) (by simp [results, Tryd.results99, go_sem]) rfl ⟨rfl, hE⟩
theorem tmeet_any (a b c d : Int) (w : World) :
    Calls Tryd.prog 100 #[.agg #[.int .i64 a, .int .i64 b], .agg #[.int .i64 c, .int .i64 d]] w fun e w' => e = .returned (.agg #[.int .i64 (max a c), .int .i64 (min b d)]) ∧ Ext w w' := by
  go_enter Tryd.func100, Tryd.ntmps100
  go_wp2
  have hE : Ext w (((w.alloc (.cells #[.int .i64 a, .int .i64 b] TSPAN)).alloc (.cells #[.int .i64 c, .int .i64 d] TSPAN)).alloc (.cells #[.int .i64 (max a c), .int .i64 (min b d)] TSPAN)) := (((Keep.refl _ _).alloc _).alloc _).alloc _
  refine bodyPost_ret (v := .agg #[.int .i64 (max a c), .int .i64 (min b d)]) (by simp [results, Tryd.results100, go_sem]) rfl ⟨rfl, hE⟩
theorem tsize_any (a b : Int) (ha : -2305843009213693952 ≤ a ∧ a ≤ 2305843009213693952) (hb : -2305843009213693952 ≤ b ∧ b ≤ 2305843009213693952) (w : World) :
    Calls Tryd.prog 101 #[.agg #[.int .i64 a, .int .i64 b]] w fun e w' => e = .returned (.int .i64 (max (b - a) 0)) ∧ Ext w w' := by
  go_enter Tryd.func101, Tryd.ntmps101
  go_wp2
  go_ret
  exact ⟨rfl, (Keep.refl _ _).alloc _⟩
theorem tknown_any (k : UInt8) (p key j nn v0 v1 v2 v3 v4 s : Value) (i : Value) (w : World) :
    Calls Tryd.prog 84 #[.agg #[U8 k, p, key, i, j, nn, v0, v1, v2, v3, v4, s]] w fun e w' => e = .returned (.bool (tknown k)) ∧ Ext w w' := by
  rcases tkind_cases k with rfl | rfl | ⟨h0, h8, h9⟩
  all_goals
    go_enter Tryd.func84, Tryd.ntmps84
    go_wp2
    go_ret
    exact ⟨by first | rfl | (rw [h0]; rfl), (Keep.refl _ _).alloc _⟩
end Go.Proofs.YtioplgfopillnaaDoor
