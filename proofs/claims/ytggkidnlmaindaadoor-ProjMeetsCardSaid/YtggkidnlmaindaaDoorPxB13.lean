/- RefGet, LawAid0, TurnA, GrowIn, Within: laid together. -/
import Derived.Test.YtggkidnlmaindaaDoorPxB12
import Derived.Test.YtggkidnlmaindaaDoorPxB6
import Derived.Test.YtggkidnlmaindaaDoorPxB5
import Derived.Test.YtggkidnlmaindaaDoorRows
import Derived.WalkKit
import Derived.OpenShut
import Derived.Test.YtggkidnlmaindaaDoorPxB9
import Derived.Test.YtggkidnlmaindaaDoorPxB8
import Derived.Test.YtggkidnlmaindaaDoorPxB10
import Derived.Test.YtggkidnlmaindaaDoorPxB4
import Derived.OrdersIn
import Derived.RangeFuncNested
import Derived.RangeFuncBound
import Derived.RangeFuncCalls
import Derived.RangeFuncLeaves
import Derived.RangeFuncFrom
import Derived.Shelf.Abstract
import Derived.Shelf.RegionOpen
import Derived.OwnWalkIn
import Derived.TacticsInMore
import Derived.LoopNIn
import Derived.LoopIn
set_option linter.unusedSimpArgs false
set_option linter.unusedVariables false
set_option maxHeartbeats 25600000
set_option maxRecDepth 20000
namespace Go.Proofs.YtggkidnlmaindaaDoor
open Go.RowKit
theorem cell_some {w : World} {g : Nat} {T : TypeId} {cur : Array Value} (h : Blk w g T cur) {i : Nat} (hi : i < cur.size) : ∃ u, w.cell? ⟨g, i, none⟩ = some u := ⟨cur[i], by rw [h.cell]; simp [hi]⟩
theorem ret5 {w0 w : World} {g : Nat} (hE : Ext w0 w) (hg : w0.heap.size ≤ g) (hb : Blk w g TVAL #[.int .u8 0, .int .i64 0, .string ⟨#[]⟩, .slice none 0 0, .slice none 0 0]) (a b c d e : Value) :
  Ext w0 (fillW w g a b c d e) ∧ (fillW w g a b c d e).cell? ⟨g, 0, none⟩ = some a ∧ (fillW w g a b c d e).cell? ⟨g, 1, none⟩ = some b ∧ (fillW w g a b c d e).cell? ⟨g, 2, none⟩ = some c ∧ (fillW w g a b c d e).cell? ⟨g, 3, none⟩ = some d ∧ (fillW w g a b c d e).cell? ⟨g, 4, none⟩ = some e := by
 have hk : Keep (· = g) w (fillW w g a b c d e) := set5_keep w g 0 _ _ _ _ _
 obtain ⟨t0, t1, t2, t3, t4⟩ := blk5 (show Blk (fillW w g a b c d e) g TVAL #[a, b, c, d, e] from set5_to hb rfl _ _ _ _ _)
 exact ⟨hE.trans hk fun q hq e => by omega, t0, t1, t2, t3, t4⟩
def FillAt (k g i : Nat) (w w' : World) : Prop := i = k ∧ ∃ a b c d e, w' = fillW w g a b c d e
def Blk5 (w : World) (g : Nat) : Prop := ∃ cur, cur.size = 5 ∧ Blk w g TVAL cur
def Loc.idx : Loc → Nat
 | .l i => i
 | .o i => i
def StepIs (w : World) (S : BS) (x : V) (s : St) (e : Ending) (w' : World) : Prop := match stepV x s with
 | none => e = .returned (.tuple #[ZVAL, .int .i64 0, .int .i64 30])
 | some loc => ∃ u y, x.child? loc = some y ∧ e = .returned (.tuple #[u, .int .i64 (loc.idx : Int), .int .i64 0]) ∧ VAt w' S u y
theorem step_ok (w : World) (S : BS) (u : Value) (x : V) (s : St) (h : VAt w S u x) :
  Calls Tryd.prog 83 #[u, stV s] w fun e w' => StepIs w' S x s e w' ∧ Ext w w' := by
 obtain ⟨lv, ov, rfl, hl, ho⟩ := h
 obtain ⟨A, c, rfl, hlc, hcm⟩ := hl.shape
 obtain ⟨A', c', rfl, hlc', hcm'⟩ := ho.shape
 unfold maxLen at hcm hcm'
 have HL := hid hl
 have HO := hid ho
 have HV := hid (show VAt w S (.agg (vC x A c A' c')) x from ⟨_, _, rfl, hl, ho⟩)
 obtain ⟨w1, hw1⟩ : ∃ w1, w1 = w.alloc (.cells (vC x A c A' c') TVAL) := ⟨_, rfl⟩
 obtain ⟨w2, hw2⟩ : ∃ w2, w2 = w1.alloc (.cells #[.bool s.list, .int .i64 s.i, .string s.key] TSTEP) := ⟨_, rfl⟩
 obtain ⟨w3, hw3⟩ : ∃ w3, w3 = w2.alloc (.cells #[.int .u8 0, .int .i64 0, .string ⟨#[]⟩, .slice none 0 0, .slice none 0 0] TVAL) := ⟨_, rfl⟩
 have hz1 : w1.heap.size = w.heap.size + 1 := by rw [hw1]; simp
 have hz2 : w2.heap.size = w.heap.size + 2 := by rw [hw2]; simp [hz1]
 have hE1 : Ext w w1 := by rw [hw1]; exact (Keep.refl _ _).alloc _
 have hE2 : Ext w1 w2 := by rw [hw2]; exact (Keep.refl _ _).alloc _
 have hE3 : Ext w2 w3 := by rw [hw3]; exact (Keep.refl _ _).alloc _
 have hb1 : Blk w3 w.heap.size TVAL (vC x A c A' c') := by
  have := Blk.new w TVAL (vC x A c A' c')
  rw [← hw1] at this
  exact (this.keep hE2 id).keep hE3 id
 have hb2 : Blk w3 (w.heap.size + 1) TSTEP #[.bool s.list, .int .i64 s.i, .string s.key] := by
  have := Blk.new w1 TSTEP #[.bool s.list, .int .i64 s.i, .string s.key]
  rw [← hw2, hz1] at this
  exact this.keep hE3 id
 have hb3 : Blk w3 (w.heap.size + 2) TVAL #[.int .u8 0, .int .i64 0, .string ⟨#[]⟩, .slice none 0 0, .slice none 0 0] := by
  have := Blk.new w2 TVAL #[.int .u8 0, .int .i64 0, .string ⟨#[]⟩, .slice none 0 0, .slice none 0 0]
  rwa [← hw3, hz2] at this
 have hE : Ext w w3 := (hE1.ext hE2).ext hE3
 have HE := hid hE
 have HB3 := hid hb3
 have e3 : w3 = ((w.alloc (.cells (vC x A c A' c') TVAL)).alloc (.cells #[.bool s.list, .int .i64 s.i, .string s.key] TSTEP)).alloc (.cells #[.int .u8 0, .int .i64 0, .string ⟨#[]⟩, .slice none 0 0, .slice none 0 0] TVAL) := by rw [hw3, hw2, hw1]
 have q0 : w3.cell? ⟨w.heap.size, 0, none⟩ = some (U8 x.kind) := hb1.cell 0
 have q1 : w3.cell? ⟨w.heap.size, 1, none⟩ = some (.int .i64 x.n) := hb1.cell 1
 have q2 : w3.cell? ⟨w.heap.size, 2, none⟩ = some (.string x.s) := hb1.cell 2
 have q3 : w3.cell? ⟨w.heap.size, 3, none⟩ = some (.slice A x.l.length c) := hb1.cell 3
 have q4 : w3.cell? ⟨w.heap.size, 4, none⟩ = some (.slice A' x.o.length c') := hb1.cell 4
 have s0 : w3.cell? ⟨w.heap.size + 1, 0, none⟩ = some (.bool s.list) := hb2.cell 0
 have s1 : w3.cell? ⟨w.heap.size + 1, 1, none⟩ = some (.int .i64 s.i) := hb2.cell 1
 have s2 : w3.cell? ⟨w.heap.size + 1, 2, none⟩ = some (.string s.key) := hb2.cell 2
 have r0 : w3.cell? ⟨w.heap.size + 2, 0, none⟩ = some (.int .u8 0) := hb3.cell 0
 have r1 : w3.cell? ⟨w.heap.size + 2, 1, none⟩ = some (.int .i64 0) := hb3.cell 1
 have r2 : w3.cell? ⟨w.heap.size + 2, 2, none⟩ = some (.string ⟨#[]⟩) := hb3.cell 2
 have r3 : w3.cell? ⟨w.heap.size + 2, 3, none⟩ = some (.slice none 0 0) := hb3.cell 3
 have r4 : w3.cell? ⟨w.heap.size + 2, 4, none⟩ = some (.slice none 0 0) := hb3.cell 4
 obtain ⟨f0, f1, f2, f3, f4⟩ := sqf5 hb3
 have HZ := hid (show w.heap.size + 2 < w3.heap.size from hb3.lt)
 clear hw1 hw2 hw3 hE1 hE2 hE3 hb1 hb2 hb3 hz1 hz2 hE hl ho w1 w2
 have HX := hid (show w.heap.size ≤ w.heap.size + 2 from by omega)
 obtain ⟨sl, si, sk⟩ := s
 simp only at *
 have hnone : ∀ (hs : stepV x ⟨sl, si, sk⟩ = none) (w' : World), StepIs w' S x ⟨sl, si, sk⟩ (.returned (.tuple #[ZVAL, .int .i64 0, .int .i64 30])) w' := fun hs w' => by unfold StepIs; rw [hs]
 cases sl with
 | true =>
  by_cases hk : x.kind = 4
  ·have hkX : ((x.kind.toNat : Int) != 4) = false := by rw [hk]; rfl
   have HK := hid hk
   clear hk
   by_cases h0 : si < 0
   ·have hkk : (decide (si < 0)) = true := by simpa using h0
    have HS := hid (hnone (by rw [stepV_l rfl]; exact if_neg fun h => by have := h.2.1; simp only at this; omega))
    clear hnone
    go_enter Tryd.func83, Tryd.ntmps83
    go_wp2
    rw [← e3]
    clear e3
    refine bodyPost_ret (v := .tuple #[ZVAL, .int .i64 0, .int .i64 30]) (by simp [results, Tryd.results83, go_sem, r0, r1, r2, r3, r4]) rfl ⟨?_, HE.out⟩
    exact HS.out _
   ·by_cases h1 : (x.l.length : Int) ≤ si
    ·have hkk : (decide ((x.l.length : Int) ≤ si)) = true := by simpa using h1
     have HS := hid (hnone (by rw [stepV_l rfl]; exact if_neg fun h => by have := h.2.2; simp only at this; omega))
     clear hnone
     go_enter Tryd.func83, Tryd.ntmps83
     go_wp2
     rw [← e3]
     clear e3
     refine bodyPost_ret (v := .tuple #[ZVAL, .int .i64 0, .int .i64 30]) (by simp [results, Tryd.results83, go_sem, r0, r1, r2, r3, r4]) rfl ⟨?_, HE.out⟩
     exact HS.out _
    ·obtain ⟨j, rfl⟩ : ∃ j : Nat, si = j := ⟨si.toNat, by omega⟩
     have hj : j < x.l.length := by omega
     obtain ⟨g, o, cs, rfl, _, _, hrd, hcell⟩ := HL.out.at_ EVal.ok hj
     have HY := hid (show stepV x ⟨true, (j : Int), sk⟩ = some (.l j) ∧ x.child? (.l j) = some x.l[j] from by
      refine ⟨?_, by rw [child_l]; exact List.getElem?_eq_getElem hj⟩
      rw [stepV_l rfl, if_pos ⟨HK.out, by simp only; omega, by simp only; omega⟩]; rfl)
     generalize x.l[j] = y at *
     obtain ⟨A1, m1, d1, A2, m2, d2, rfl, _, _, hva⟩ := EVal_cells hrd
     have c0 := hcell 0 _ rfl
     have c1 := hcell 1 _ rfl
     have c2 := hcell 2 _ rfl
     have c3 := hcell 3 _ rfl
     have c4 := hcell 4 _ rfl
     have hz : EVal.size = 5 := rfl
     simp only [hz, Nat.add_zero] at c0 c1 c2 c3 c4
     have HG := hid (lt_of_cell c0)
     replace c0 := sqw HE.out c0
     replace c1 := sqw HE.out c1
     replace c2 := sqw HE.out c2
     replace c3 := sqw HE.out c3
     replace c4 := sqw HE.out c4
     have HVA := hid hva
     clear hz hcell hva hrd hnone
     go_enter Tryd.func83, Tryd.ntmps83
     go_wp2_with fail
     rw [← e3]
     clear e3
     refine G.wp_region_grow (G.specOf [(8, fun _ w' => Blk w' (w.heap.size + 2) TVAL (vC y A1 d1 A2 d2))])
      (fun w' => Keep (· = w.heap.size + 2) w3 w' ∧ Blk5 w' (w.heap.size + 2)) (FillAt 8 (w.heap.size + 2)) ?_ ?_ (by kernel_rfl) (by kernel_rfl) ⟨Keep.drew (Keep.refl _ _), _, rfl, HB3.out⟩ ?_
     ·exact G.stable_cons (fun j hj v w w' h he => absurd he.1 hj) G.stable_nil
     ·rintro i wa wb ⟨h1, cur, h2, h3⟩ ⟨_, a, b, c, d, e, rfl⟩
      exact ⟨h1.trans (set5_keep _ _ _ _ _ _ _ _) fun q _ e => e, _, rfl, set5_to h3 h2 _ _ _ _ _⟩
     iterate 8
      (try simp only [Act.put, sqa, sqb, sqc])
      refine G.grow_run rfl rfl rfl ?_
      apply Exists.intro
      refine ⟨fun w' hC hK => ?_, ?_⟩
      ·have hne0 : ¬ w.heap.size = w.heap.size + 2 := (by omega)
       have hne1 : ¬ w.heap.size + 1 = w.heap.size + 2 := (by omega)
       have hneg : ¬ g = w.heap.size + 2 := (by have := HG.out; omega)
       have q3 := (hC.1.cell (lt_of_cell q3) hne0).trans q3
       have s1 := (hC.1.cell (lt_of_cell s1) hne1).trans s1
       have c0 := (hC.1.cell (lt_of_cell c0) hneg).trans c0
       have c1 := (hC.1.cell (lt_of_cell c1) hneg).trans c1
       have c2 := (hC.1.cell (lt_of_cell c2) hneg).trans c2
       have c3 := (hC.1.cell (lt_of_cell c3) hneg).trans c3
       have c4 := (hC.1.cell (lt_of_cell c4) hneg).trans c4
       go_simp
       rfl
     (try simp only [Act.put, sqa, sqb, sqc])
     refine G.grow_eff rfl rfl rfl (fun w' hC hK => ?_) (fun v8 hv8 => ?_)
     ·obtain ⟨cur, hcur, hbl⟩ := hC.2
      have HF := hid (show Blk (fillW w' (w.heap.size + 2) (U8 y.kind) (.int .i64 y.n) (.string y.s) (.slice A1 y.l.length d1) (.slice A2 y.o.length d2)) (w.heap.size + 2) TVAL (vC y A1 d1 A2 d2) from set5_to hbl hcur _ _ _ _ _)
      obtain ⟨u0, z0⟩ := cell_some hbl (show 0 < cur.size from by omega)
      obtain ⟨u1, z1⟩ := cell_some hbl (show 1 < cur.size from by omega)
      obtain ⟨u2, z2⟩ := cell_some hbl (show 2 < cur.size from by omega)
      obtain ⟨u3, z3⟩ := cell_some hbl (show 3 < cur.size from by omega)
      obtain ⟨u4, z4⟩ := cell_some hbl (show 4 < cur.size from by omega)
      obtain ⟨g0, g1, g2, g3, g4⟩ := sqf5 hbl
      unfold G.growAt
      go_simp
      exact ⟨⟨rfl, _, _, _, _, _, rfl⟩, HF.out⟩
     iterate 2
      (try simp only [Act.put, sqa, sqb, sqc])
      refine G.grow_run rfl rfl rfl ?_
      apply Exists.intro
      refine ⟨fun w' hC hK => ?_, ?_⟩
      ·go_simp
       rfl
     refine G.grow_nil fun w7 hC hK => ?_
     have HB7 := hid (show Blk w7 (w.heap.size + 2) TVAL (vC y A1 d1 A2 d2) from hK (8, _) List.mem_cons_self)
     have HE7 := hid (show Ext w w7 from HE.out.trans hC.1 fun q hq e => by omega)
     clear hC hK hv8 q0 q1 q2 q3 q4 r0 r1 r2 r3 r4 s0 s1 s2 f0 f1 f2 f3 f4 c0 c1 c2 c3 c4
     go_wp2
     obtain ⟨t0, t1, t2, t3, t4⟩ := blk5 HB7.out
     refine bodyPost_ret (v := .tuple #[.agg (vC y A1 d1 A2 d2), .int .i64 j, .int .i64 0]) (by simp [results, Tryd.results83, go_sem, t0, t1, t2, t3, t4]) rfl ⟨?_, HE7.out⟩
     unfold StepIs
     rw [HY.out.1]
     exact ⟨_, y, HY.out.2, rfl, HVA.out.ext HE7.out⟩
  ·have hkX : ((x.kind.toNat : Int) != 4) = true := by
    have : x.kind.toNat ≠ 4 := fun e => hk (UInt8.toNat_inj.1 (by simpa using e))
    simp; omega
   have HK := hid hk
   clear hk
   have HS := hid (hnone (by rw [stepV_l rfl]; exact if_neg fun h => by exact HK.out h.1))
   clear hnone
   go_enter Tryd.func83, Tryd.ntmps83
   go_wp2
   rw [← e3]
   clear e3
   refine bodyPost_ret (v := .tuple #[ZVAL, .int .i64 0, .int .i64 30]) (by simp [results, Tryd.results83, go_sem, r0, r1, r2, r3, r4]) rfl ⟨?_, HE.out⟩
   exact HS.out _
 | false =>
  have HF := hid (rfield_val w3 S _ x sk (HV.out.ext HE.out))
  by_cases hk : x.kind = 5
  ·have hkX : ((x.kind.toNat : Int) != 5) = false := by rw [hk]; rfl
   have HK := hid hk
   clear hk
   cases hf : fieldIs x.o sk with
   | true =>
    have hj := fieldIs_lt hf
    obtain ⟨g, o, cs, rfl, _, _, hrd, hcell⟩ := HO.out.at_ EField.ok hj
    have HY := hid (show stepV x ⟨false, si, sk⟩ = some (.o (fieldL x.o sk)) ∧ x.child? (.o (fieldL x.o sk)) = some x.o[fieldL x.o sk].v from by
     refine ⟨?_, by rw [child_o, List.getElem?_eq_getElem hj]; rfl⟩
     rw [stepV_o rfl, if_pos ⟨HK.out, hf⟩])
    rw [hf] at HF
    generalize hjj : fieldL x.o sk = j at *
    generalize x.o[j] = y at *
    obtain ⟨_, _, rfl, ⟨A1, d1, rfl⟩, ⟨A2, d2, rfl⟩, hva⟩ := EField_cells hrd
    have c0 := hcell 1 _ rfl
    have c1 := hcell 2 _ rfl
    have c2 := hcell 3 _ rfl
    have c3 := hcell 4 _ rfl
    have c4 := hcell 5 _ rfl
    have hz : EField.size = 6 := rfl
    simp only [hz, Nat.add_zero] at c0 c1 c2 c3 c4
    replace c0 := sqw HE.out c0
    replace c1 := sqw HE.out c1
    replace c2 := sqw HE.out c2
    replace c3 := sqw HE.out c3
    replace c4 := sqw HE.out c4
    have HVA := hid hva
    clear hz hcell hva hrd hnone hf hjj
    go_enter Tryd.func83, Tryd.ntmps83
    go_wp2_with fail
    rw [← e3]
    clear e3
    refine HF.out.mono ?_
    rintro e w4 ⟨rfl, hE4⟩
    replace q0 := sqw hE4 q0
    replace q1 := sqw hE4 q1
    replace q2 := sqw hE4 q2
    replace q3 := sqw hE4 q3
    replace q4 := sqw hE4 q4
    replace c0 := sqw hE4 c0
    replace c1 := sqw hE4 c1
    replace c2 := sqw hE4 c2
    replace c3 := sqw hE4 c3
    replace c4 := sqw hE4 c4
    have HB4 := hid (HB3.out.keep hE4 id)
    have HE4 := hid (HE.out.ext hE4)
    obtain ⟨r0, r1, r2, r3, r4⟩ := blk5 HB4.out
    obtain ⟨f0, f1, f2, f3, f4⟩ := sqf5 HB4.out
    clear hE4
    have HT := hid (ret5 HE4.out HX.out HB4.out (U8 y.v.kind) (.int .i64 y.v.n) (.string y.v.s) (.slice A1 y.v.l.length d1) (.slice A2 y.v.o.length d2))
    go_wp2
    obtain ⟨hE5, t0, t1, t2, t3, t4⟩ := HT.out
    change bodyPost _ _ _ _ _ (fillW w4 (w.heap.size + 2) (U8 y.v.kind) (.int .i64 y.v.n) (.string y.v.s) (.slice A1 y.v.l.length d1) (.slice A2 y.v.o.length d2))
    generalize fillW w4 (w.heap.size + 2) (U8 y.v.kind) (.int .i64 y.v.n) (.string y.v.s) (.slice A1 y.v.l.length d1) (.slice A2 y.v.o.length d2) = w7 at *
    refine bodyPost_ret (v := .tuple #[.agg (vC y.v A1 d1 A2 d2), .int .i64 j, .int .i64 0]) (by simp [results, Tryd.results83, go_sem, t0, t1, t2, t3, t4]) rfl ⟨?_, hE5⟩
    unfold StepIs
    rw [HY.out.1]
    exact ⟨_, y.v, HY.out.2, rfl, HVA.out.ext hE5⟩
   | false =>
    have HS := hid (hnone (by rw [stepV_o rfl]; exact if_neg fun h => by have := h.2; simp only at this; rw [hf] at this; cases this))
    rw [hf] at HF
    clear hnone hf
    go_enter Tryd.func83, Tryd.ntmps83
    go_wp2_with fail
    rw [← e3]
    clear e3
    refine HF.out.mono ?_
    rintro e w4 ⟨rfl, hE4⟩
    replace q0 := sqw hE4 q0
    replace q1 := sqw hE4 q1
    replace q2 := sqw hE4 q2
    replace q3 := sqw hE4 q3
    replace q4 := sqw hE4 q4
    replace r0 := sqw hE4 r0
    replace r1 := sqw hE4 r1
    replace r2 := sqw hE4 r2
    replace r3 := sqw hE4 r3
    replace r4 := sqw hE4 r4
    have HB4 := hid (HB3.out.keep hE4 id)
    have HE4 := hid (HE.out.ext hE4)
    obtain ⟨f0, f1, f2, f3, f4⟩ := sqf5 HB4.out
    clear hE4
    have HT := hid (ret5 HE4.out HX.out HB4.out (.int .u8 0) (.int .i64 0) (.string ⟨#[]⟩) (.slice none 0 0) (.slice none 0 0))
    go_wp2
    obtain ⟨hE5, t0, t1, t2, t3, t4⟩ := HT.out
    change bodyPost _ _ _ _ _ (fillW w4 (w.heap.size + 2) (.int .u8 0) (.int .i64 0) (.string ⟨#[]⟩) (.slice none 0 0) (.slice none 0 0))
    generalize fillW w4 (w.heap.size + 2) (.int .u8 0) (.int .i64 0) (.string ⟨#[]⟩) (.slice none 0 0) (.slice none 0 0) = w7 at *
    refine bodyPost_ret (v := .tuple #[ZVAL, .int .i64 0, .int .i64 30]) (by simp [results, Tryd.results83, go_sem, t0, t1, t2, t3, t4]) rfl ⟨?_, hE5⟩
    exact HS.out _
  ·have hkX : ((x.kind.toNat : Int) != 5) = true := by
    have : x.kind.toNat ≠ 5 := fun e => hk (UInt8.toNat_inj.1 (by simpa using e))
    simp; omega
   have HS := hid (hnone (by rw [stepV_o rfl]; exact if_neg fun h => hk h.1))
   clear hnone hk
   generalize fieldIs x.o sk = fb at *
   go_enter Tryd.func83, Tryd.ntmps83
   go_wp2_with fail
   rw [← e3]
   clear e3
   refine HF.out.mono ?_
   rintro e w4 ⟨rfl, hE4⟩
   replace q0 := sqw hE4 q0
   replace q1 := sqw hE4 q1
   replace q2 := sqw hE4 q2
   replace q3 := sqw hE4 q3
   replace q4 := sqw hE4 q4
   replace r0 := sqw hE4 r0
   replace r1 := sqw hE4 r1
   replace r2 := sqw hE4 r2
   replace r3 := sqw hE4 r3
   replace r4 := sqw hE4 r4
   have HB4 := hid (HB3.out.keep hE4 id)
   have HE4 := hid (HE.out.ext hE4)
   obtain ⟨f0, f1, f2, f3, f4⟩ := sqf5 HB4.out
   clear hE4
   have HT := hid (ret5 HE4.out HX.out HB4.out (.int .u8 0) (.int .i64 0) (.string ⟨#[]⟩) (.slice none 0 0) (.slice none 0 0))
   go_wp2
   obtain ⟨hE5, t0, t1, t2, t3, t4⟩ := HT.out
   change bodyPost _ _ _ _ _ (fillW w4 (w.heap.size + 2) (.int .u8 0) (.int .i64 0) (.string ⟨#[]⟩) (.slice none 0 0) (.slice none 0 0))
   generalize fillW w4 (w.heap.size + 2) (.int .u8 0) (.int .i64 0) (.string ⟨#[]⟩) (.slice none 0 0) (.slice none 0 0) = w7 at *
   refine bodyPost_ret (v := .tuple #[ZVAL, .int .i64 0, .int .i64 30]) (by simp [results, Tryd.results83, go_sem, t0, t1, t2, t3, t4]) rfl ⟨?_, hE5⟩
   exact HS.out _
def StepO (S : BS) (z : V) (idx : Nat) (err : Int) (_ _ : Nat) (v : Value) (w : World) : Prop := ∃ A c A' c', v = .tuple #[.agg (vC z A c A' c'), .int .i64 idx, .int .i64 err] ∧ VAt w S (.agg (vC z A c A' c')) z
theorem StepO.ext {S : BS} {z : V} {idx : Nat} {err : Int} {n m : Nat} {v : Value} {w w' : World} (h : StepO S z idx err n m v w) (he : Ext w w') : StepO S z idx err n m v w' := by
 obtain ⟨A, c, A', c', e, h⟩ := h
 exact ⟨A, c, A', c', e, h.ext he⟩
def StepTo (y : V) (s : St) (z : V) (idx : Nat) (err : Int) : Prop := (stepV y s = none ∧ err = 30) ∨ ∃ loc, stepV y s = some loc ∧ idx = loc.idx ∧ y.child? loc = some z ∧ err = 0
theorem step_o (y : V) (s : St) : ∃ (z : V) (idx : Nat) (err : Int), (∀ (w : World) (S : BS) (u : Value), VAt w S u y → Calls Tryd.prog 83 #[u, stV s] w fun e w' => ∃ v, e = .returned v ∧ Ext w w' ∧ StepO S z idx err w.heap.size w'.heap.size v w') ∧ StepTo y s z idx err := by
 cases hs : stepV y s with
 | none =>
  refine ⟨.mk 0 0 ⟨#[]⟩ [] [], 0, 30, fun w S u h => (step_ok w S u y s h).mono ?_, .inl ⟨hs, rfl⟩⟩
  rintro e w' ⟨h1, hE⟩
  unfold StepIs at h1
  rw [hs] at h1
  exact ⟨_, h1, hE, none, 0, none, 0, rfl, _, _, rfl, Sl.nil _ _, Sl.nil _ _⟩
 | some loc =>
  obtain ⟨z, hz⟩ := stepV_child hs
  refine ⟨z, loc.idx, 0, fun w S u h => (step_ok w S u y s h).mono ?_, .inr ⟨loc, hs, rfl, hz, rfl⟩⟩
  rintro e w' ⟨h1, hE⟩
  unfold StepIs at h1
  rw [hs] at h1
  obtain ⟨u', z', hz', rfl, hva⟩ := h1
  rw [hz] at hz'
  obtain rfl := Option.some.inj hz'
  obtain ⟨A, c, A', c', rfl, hva⟩ := hva.form
  exact ⟨_, rfl, hE, A, c, A', c', rfl, hva⟩
theorem StepO.fill {S : BS} {z : V} {idx : Nat} {err : Int} {w0 w : World} {n m g k i' : Nat} {e' : Int} {a0 a1 a2 a3 a4 : Value} (hS : ∀ q, S q → q < w0.heap.size) (hE : Ext w0 w) (hb : BoxQ w0.heap.size g k (.pointer (some ⟨g, 0, none⟩)) w) (hv : StepO S z idx err n m (.tuple #[.agg #[a0, a1, a2, a3, a4], .int .i64 i', .int .i64 e']) w) :
  Ext w0 (fillW w g a0 a1 a2 a3 a4) ∧ Blk (fillW w g a0 a1 a2 a3 a4) g TVAL #[a0, a1, a2, a3, a4] ∧ VAt (fillW w g a0 a1 a2 a3 a4) S (.agg #[a0, a1, a2, a3, a4]) z := by
 obtain ⟨A, c, A', c', h4, h5⟩ := hv
 simp only [Value.tuple.injEq, Array.mk.injEq, List.cons.injEq, Value.agg.injEq, and_true] at h4
 obtain ⟨⟨rfl, rfl, rfl, rfl, rfl⟩, _⟩ := h4
 have hk : Keep (· = g) w (fillW w g (U8 z.kind) (.int .i64 z.n) (.string z.s) (.slice A z.l.length c) (.slice A' z.o.length c')) := set5_keep w g 0 _ _ _ _ _
 exact ⟨hE.trans hk fun q hq e => by have := hb.1; omega, set5_to hb.2.2.2 rfl _ _ _ _ _, h5.keep hk fun q hq e => by have := hS q hq; have := hb.1; omega⟩
theorem getV_take {v y : V} {p : List St} {j : Nat} (hj : j < p.length) (h : getV v (p.take j) = some y) : getV v p = getV y (p.drop j) ∧ p.drop j = p[j] :: p.drop (j + 1) ∧ getV v (p.take (j + 1)) = getV y [p[j]] := by
 have h1 := getV_append (p.take j) (p.drop j) v
 rw [List.take_append_drop, h, Option.bind_some] at h1
 have h2 := getV_append (p.take j) [p[j]] v
 rw [h, Option.bind_some, ← List.take_succ_eq_append_getElem hj] at h2
 exact ⟨h1, List.drop_eq_getElem_cons hj, h2⟩
theorem StepTo.none {y v z : V} {p : List St} {j idx : Nat} {err : Int} (hj : j < p.length) (h : getV v (p.take j) = some y) (hs : StepTo y p[j] z idx err) (he : err ≠ 0) : getV v p = .none ∧ err = 30 := by
 obtain ⟨h1, h2, _⟩ := getV_take hj h
 rcases hs with ⟨h3, h4⟩ | ⟨_, _, _, _, h4⟩
 ·rw [h1, h2, getV, h3]; exact ⟨rfl, h4⟩
 ·exact absurd h4 he
theorem StepTo.some {y v z : V} {p : List St} {j idx : Nat} {err : Int} (hj : j < p.length) (h : getV v (p.take j) = some y) (hs : StepTo y p[j] z idx err) (he : err = 0) : getV v (p.take (j + 1)) = some z := by
 obtain ⟨_, _, h1⟩ := getV_take hj h
 rcases hs with ⟨_, h4⟩ | ⟨loc, h2, _, h3, _⟩
 ·rw [h4] at he; cases he
 ·rw [h1]; simp only [getV, h2, h3]
theorem bounds_int {i : Int} (hi : (Lit.int .i64 i).wf = true) : -9223372036854775808 ≤ i ∧ i ≤ 9223372036854775807 := by
 simp [Lit.wf, IntKind.min, IntKind.max, IntKind.signed, IntKind.bits] at hi
 exact hi
theorem run_max0 (i : Int) (hi : (Lit.int .i64 i).wf = true) : ∃ i0 : Nat, (∀ w, (Builtin.max_ #[3, 3] 3 #[.int .i64 i, .int .i64 0]).run Tryd.prog w = .ok (.int .i64 i0) w) ∧ i0 ≤ maxLen := by
 refine ⟨(max i 0).toNat, fun w => ?_, ?_⟩
 ·rw [run_max_int2, show (((max i 0).toNat : Nat) : Int) = if 0 > i then 0 else i from by split <;> omega]
 ·have h := bounds_int hi
  simp only [maxLen]; omega
structure Cp where
 kind : UInt8
 path : List St
 key : ByteArray
 i : Int
 j : Int
 n : Int
 v : V
 s : ByteArray
abbrev TCMP : Nat := 58
abbrev cpCells (c : Cp) (pv lv ov : Value) : Array Value := #[U8 c.kind, pv, .string c.key, .int .i64 c.i, .int .i64 c.j, .int .i64 c.n, U8 c.v.kind, .int .i64 c.v.n, .string c.v.s, lv, ov, .string c.s]
abbrev cC (c : Cp) (A : Option Addr) (a : Nat) (B : Option Addr) (b : Nat) (D : Option Addr) (d : Nat) : Array Value := cpCells c (.slice A c.path.length a) (.slice B c.v.l.length b) (.slice D c.v.o.length d)
def CAt (w : World) (S : BS) (u : Value) (c : Cp) : Prop := ∃ pv lv ov, u = .agg (cpCells c pv lv ov) ∧ Sl ESt w S pv c.path ∧ Sl EVal w S lv c.v.l ∧ Sl EField w S ov c.v.o
section
variable {w w' : World} {S S' : BS} {u : Value} {c : Cp}
theorem CAt.ext (h : CAt w S u c) (he : Ext w w') : CAt w' S u c := by
 obtain ⟨pv, lv, ov, h1, h2, h3, h4⟩ := h; exact ⟨pv, lv, ov, h1, h2.ext ESt.ok he, h3.ext EVal.ok he, h4.ext EField.ok he⟩
theorem CAt.more (h : CAt w S u c) (hS : ∀ k, k < w.heap.size → S k → S' k) : CAt w S' u c := by
 obtain ⟨pv, lv, ov, h1, h2, h3, h4⟩ := h; exact ⟨pv, lv, ov, h1, h2.more ESt.ok hS, h3.more EVal.ok hS, h4.more EField.ok hS⟩
theorem CAt.keep {Fr : Nat → Prop} (h : CAt w S u c) (hk : Keep Fr w w') (hF : ∀ k, S k → ¬ Fr k) : CAt w' S u c := by
 obtain ⟨pv, lv, ov, h1, h2, h3, h4⟩ := h; exact ⟨pv, lv, ov, h1, h2.keep ESt.ok hk hF, h3.keep EVal.ok hk hF, h4.keep EField.ok hk hF⟩
theorem CAt.cut (h : CAt w S u c) : CAt w (fun k => S k ∧ k < w.heap.size) u c := h.more fun k h1 h2 => ⟨h2, h1⟩
end
theorem cells_st {w w' : World} {S S' : BS} : ∀ {xs : List St} {cs : List Value}, Cells ESt w S cs xs → Cells ESt w' S' cs xs
 | [], _, h => h
 | _ :: _, _, ⟨c0, c1, e, h0, h1⟩ => ⟨c0, c1, e, h0, cells_st h1⟩
theorem own_st {w : World} {base : Nat} {T : TypeId} {S : BS} {v : Value} {xs : List St} (h : Own ESt w base T S v xs) : Sl ESt w (fun k => base ≤ k) v xs := by
 obtain ⟨cs, h1, h2⟩ := h.rowS ESt.ok
 exact ⟨cs, h1.more fun k _ e => (h.lt e).1, cells_st h2⟩
abbrev ZCMP : Array Value := #[.int .u8 0, .slice none 0 0, .string ⟨#[]⟩, .int .i64 0, .int .i64 0, .int .i64 0, .int .u8 0, .int .i64 0, .string ⟨#[]⟩, .slice none 0 0, .slice none 0 0, .string ⟨#[]⟩]
def VIs (w : World) (S : BS) (u : Value) (v : V) : Prop := ∃ A n A' n', u = .agg (vC v A n A' n') ∧ Sl EVal w S (.slice A v.l.length n) v.l ∧ Sl EField w S (.slice A' v.o.length n') v.o
theorem VIs.of {w : World} {S : BS} {u : Value} {v : V} (h : VAt w S u v) : VIs w S u v := by
 obtain ⟨lv, ov, rfl, h1, h2⟩ := h
 obtain ⟨A, c, rfl, _⟩ := h1.shape
 obtain ⟨A', c', rfl, _⟩ := h2.shape
 exact ⟨A, c, A', c', rfl, h1, h2⟩
theorem VIs.ext {w w' : World} {S : BS} {u : Value} {v : V} (h : VIs w S u v) (he : Ext w w') : VIs w' S u v := by
 obtain ⟨A, n, A', n', h1, h2, h3⟩ := h; exact ⟨A, n, A', n', h1, h2.ext EVal.ok he, h3.ext EField.ok he⟩
theorem comp_copy (w : World) (S : BS) (u : Value) (c : Cp) (h : CAt w S u c) (hp : c.path.length ≤ 1000) (hv : c.v.size ≤ 1000000) :
  Calls Tryd.prog 45 #[u] w fun e w' => ∃ u', e = .returned u' ∧ CAt w' (fun k => w.heap.size ≤ k) u' c ∧ Ext w w' := by
 obtain ⟨pv, lv, ov, rfl, h1, h2, h3⟩ := h.cut
 obtain ⟨Ap, cp, rfl, hpl, hpm⟩ := h1.shape
 obtain ⟨Al, cl, rfl, hll, hlm⟩ := h2.shape
 obtain ⟨Ao, co, rfl, hol, hom⟩ := h3.shape
 obtain ⟨W, hW⟩ : ∃ W, (w.alloc (.cells (cC c Ap cp Al cl Ao co) TCMP)) = W := ⟨_, rfl⟩
 have hE : Ext w W := by rw [← hW]; exact (Keep.refl _ _).alloc _
 have hb : Blk W w.heap.size TCMP (cC c Ap cp Al cl Ao co) := by rw [← hW]; exact Blk.new _ _ _
 obtain ⟨W2, hW2⟩ : ∃ W2, W.alloc (.cells ZCMP TCMP) = W2 := ⟨_, rfl⟩
 have hE2 : Ext W W2 := by rw [← hW2]; exact (Keep.refl _ _).alloc _
 have hr : Blk W2 W.heap.size TCMP ZCMP := by rw [← hW2]; exact Blk.new _ _ _
 have hb2 := hb.keep hE2 id
 have p1 := hb2.cell 1
 have v0 := hb2.cell 6
 have v1 := hb2.cell 7
 have v2 := hb2.cell 8
 have v3 := hb2.cell 9
 have v4 := hb2.cell 10
 simp at p1 v0 v1 v2 v3 v4
 have hsz : W.heap.size = w.heap.size + 1 := by rw [← hW]; simp
 have hsz2 : W2.heap.size = W.heap.size + 1 := by rw [← hW2]; simp
 have H1 := hid ((h1.ext ESt.ok hE).ext ESt.ok hE2)
 have HV := hid (show VAt W2 (fun k => S k ∧ k < w.heap.size) (.agg (vC c.v Al cl Ao co)) c.v from ⟨_, _, rfl, (h2.ext EVal.ok hE).ext EVal.ok hE2, (h3.ext EField.ok hE).ext EField.ok hE2⟩)
 have HB := hid hb2
 have HR := hid hr
 have HE := hid (hE.ext hE2)
 have HSZ := hid hsz
 have HSZ2 := hid hsz2
 rw [hsz] at hr
 clear h1 h2 h3 hb hE h hE2 hb2 hr hsz hsz2
 go_enter Tryd.func45, Tryd.ntmps45
 go_wp2_with fail
 refine wp_region_parts [] [0, 1, 2, 3, 4, 5, 6] [7, 8, 9] (specOf [(2, fun v w' => SlShape ESt w' (fun k => W2.heap.size ≤ k) v c.path.length c.path), (5, fun v w' => VIs w' (fun k => W2.heap.size ≤ k) v c.v)]) (fun w' => Ext W2 w') (stable_cons (fun v w w' h he => h.ext ESt.ok he) (stable_cons (fun v w w' h he => h.ext he) stable_nil)) (stableC_ext _) (by kernel_rfl) (by kernel_rfl) (Keep.drew (Keep.refl _ _)) ?_
 refine pure_nil ?_
 iterate 2
  (try simp only [Act.put, sqa, sqb, sqc])
  refine growP_run rfl rfl rfl ?_
  apply Exists.intro
  refine ⟨fun w' hC hK => ?_, ?_⟩
  ·have p1 := sqw hC p1
   go_simp
   rfl
 (try simp only [Act.put, sqa, sqb, sqc])
 refine growP_eff rfl rfl rfl (fun w' hC hK => ?_) (fun v2 hv2 => ?_)
 ·unfold growAt
  go_simp
  refine grow_call ((clone_steps _ _ _ _ (H1.out.ext ESt.ok hC) (Nat.le_trans hp (by decide)) (fun k h => by have := hC.size; have := HSZ.out; have := HSZ2.out; have := h.2; omega)).mono ?_)
  rintro e w'' ⟨v', rfl, h1, h2⟩
  obtain ⟨A5, c5, rfl, _⟩ := h1.shape
  exact ⟨_, rfl, h2, A5, c5, rfl, (own_st h1).more ESt.ok fun k _ h => Nat.le_trans hC.size h⟩
 obtain ⟨_, _, A2, c2, rfl, _⟩ := hv2.head
 iterate 2
  (try simp only [Act.put, sqa, sqb, sqc])
  refine growP_run rfl rfl rfl ?_
  apply Exists.intro
  refine ⟨fun w' hC hK => ?_, ?_⟩
  ·have v0 := sqw hC v0
   have v1 := sqw hC v1
   have v2 := sqw hC v2
   have v3 := sqw hC v3
   have v4 := sqw hC v4
   go_simp
   rfl
 (try simp only [Act.put, sqa, sqb, sqc])
 refine growP_eff rfl rfl rfl (fun w' hC hK => ?_) (fun v5 hv5 => ?_)
 ·unfold growAt
  go_simp
  refine grow_call ((copy_valT _ c.v (Nat.le_refl _) hv _ _ _ (HV.out.ext hC)).mono ?_)
  rintro e w'' h
  obtain ⟨u', rfl, h1, h2⟩ := h.at_
  exact ⟨_, rfl, h2, .of (h1.more fun k _ h => Nat.le_trans hC.size h)⟩
 obtain ⟨_, _, A5, m5, B5, k5, rfl, _⟩ := hv5.head
 iterate 1
  (try simp only [Act.put, sqa, sqb, sqc])
  refine growP_run rfl rfl rfl ?_
  apply Exists.intro
  refine ⟨fun w' hC hK => ?_, ?_⟩
  ·go_simp
   rfl
 refine growP_nil fun wz hC hK => ?_
 have hC : Ext W2 wz := hC
 have HC := hid hC
 have HPV := hid (show SlShape ESt wz (fun k => W2.heap.size ≤ k) (.slice A2 c.path.length c2) c.path.length c.path from hK (2, _) (List.mem_cons_of_mem _ List.mem_cons_self))
 have HVV := hid (show VIs wz (fun k => W2.heap.size ≤ k) (.agg (vC c.v A5 m5 B5 k5)) c.v from hK (5, _) List.mem_cons_self)
 have hb := HB.out.keep hC id
 have hr := HR.out.keep hC id
 have HB1 := hid hb
 have HR1 := hid hr
 have hbz : w.heap.size < W.heap.size := by have := HSZ.out; omega
 have f1 := hb.frozen 1
 have f6 := hb.frozen 6
 have f7 := hb.frozen 7
 have f8 := hb.frozen 8
 have f9 := hb.frozen 9
 have f10 := hb.frozen 10
 have y1 := hb.cell 1
 have y6 := hb.cell 6
 have y7 := hb.cell 7
 have y8 := hb.cell 8
 have y9 := hb.cell 9
 have y10 := hb.cell 10
 simp at y1 y6 y7 y8 y9 y10
 obtain ⟨X1, hX1⟩ : ∃ X1, (((((wz.setCell ⟨w.heap.size, 1, none⟩ (.slice A2 c.path.length c2)).setCell ⟨w.heap.size, 6, none⟩ (.int .u8 (c.v.kind.toNat : Int))).setCell ⟨w.heap.size, 7, none⟩ (.int .i64 c.v.n)).setCell ⟨w.heap.size, 8, none⟩ (.string c.v.s)).setCell ⟨w.heap.size, 9, none⟩ (.slice A5 c.v.l.length m5)).setCell ⟨w.heap.size, 10, none⟩ (.slice B5 c.v.o.length k5) = X1 := ⟨_, rfl⟩
 have hk1 : Keep (· = w.heap.size) wz X1 := by
  rw [← hX1]
  exact ((((((Keep.refl (· = w.heap.size) wz).set1 1 _).set1 6 _).set1 7 _).set1 8 _).set1 9 _).set1 10 _
 have hx1 : Blk X1 w.heap.size TCMP (cC c A2 c2 A5 m5 B5 k5) := by
  rw [← hX1]
  exact (((((hb.set_ 1 (.slice A2 c.path.length c2)).set_ 6 (U8 c.v.kind)).set_ 7 (.int .i64 c.v.n)).set_ 8 (.string c.v.s)).set_ 9 (.slice A5 c.v.l.length m5)).set_ 10 (.slice B5 c.v.o.length k5)
 have hr1 : Blk X1 W.heap.size TCMP ZCMP := hr.keep hk1 (by omega)
 have HX1 := hid hx1
 have HRX := hid hr1
 have HK1 := hid hk1
 have HX := hid hX1
 clear hx1 hr1 hk1 hX1 hb hr hC hK
 change wpList _ _ _ (_ :: _ :: _ :: []) _ _
 (try simp only [Act.put, sqa, sqb, sqc])
 go_wp2_with fail
 refine NoPanic.normal ?_
 rw [HX.out]
 obtain ⟨a0, a1, a2, a3, a4, a5, a6, a7, a8, a9, a10, a11⟩ := sq12 HX1.out
 obtain ⟨z0, z1, z2, z3, z4, z5, z6, z7, z8, z9, z10, z11⟩ := sq12 HRX.out
 obtain ⟨g0, g1, g2, g3, g4, g5, g6, g7, g8, g9, g10, g11⟩ := sqf12 HRX.out
 have hne : w.heap.size ≠ W.heap.size := by omega
 clear f1 f6 f7 f8 f9 f10 y1 y6 y7 y8 y9 y10 HX
 have HK2 := hid (show Keep (· = W.heap.size) X1 ((((((((((((X1.setCell ⟨W.heap.size, 0, none⟩ (.int .u8 (c.kind.toNat : Int))).setCell ⟨W.heap.size, 1, none⟩ (.slice A2 c.path.length c2)).setCell ⟨W.heap.size, 2, none⟩ (.string c.key)).setCell ⟨W.heap.size, 3, none⟩ (.int .i64 c.i)).setCell ⟨W.heap.size, 4, none⟩ (.int .i64 c.j)).setCell ⟨W.heap.size, 5, none⟩ (.int .i64 c.n)).setCell ⟨W.heap.size, 6, none⟩ (.int .u8 (c.v.kind.toNat : Int))).setCell ⟨W.heap.size, 7, none⟩ (.int .i64 c.v.n)).setCell ⟨W.heap.size, 8, none⟩ (.string c.v.s)).setCell ⟨W.heap.size, 9, none⟩ (.slice A5 c.v.l.length m5)).setCell ⟨W.heap.size, 10, none⟩ (.slice B5 c.v.o.length k5)).setCell ⟨W.heap.size, 11, none⟩ (.string c.s)) from (((((((((((((Keep.refl (· = W.heap.size) X1).set1 0 _).set1 1 _).set1 2 _).set1 3 _).set1 4 _).set1 5 _).set1 6 _).set1 7 _).set1 8 _).set1 9 _).set1 10 _).set1 11 _))
 go_wp2
 refine bodyPost_ret (v := .agg (cC c A2 c2 A5 m5 B5 k5)) (by simp [results, Tryd.results45, go_sem, z0, z1, z2, z3, z4, z5, z6, z7, z8, z9, z10, z11]) rfl ⟨_, rfl, ?_, ?_⟩
 ·have hs2 := HSZ2.out
  have hnb : ∀ k, W2.heap.size ≤ k → ¬ k = w.heap.size := fun k h e => by omega
  have hnr : ∀ k, W2.heap.size ≤ k → ¬ k = W.heap.size := fun k h e => by omega
  obtain ⟨A6, c6, e6, hp1⟩ := HPV.out
  injection e6 with e1 _ e2
  subst e1 e2
  obtain ⟨A7, n7, B7, k7, e7, hl1, ho1⟩ := HVV.out
  simp only [Value.agg.injEq] at e7
  simp at e7
  obtain ⟨⟨rfl, rfl⟩, rfl, rfl⟩ := e7
  exact ⟨_, _, _, rfl, ((hp1.keep ESt.ok HK1.out hnb).keep ESt.ok HK2.out hnr).more ESt.ok fun k _ h => by omega, ((hl1.keep EVal.ok HK1.out hnb).keep EVal.ok HK2.out hnr).more EVal.ok fun k _ h => by omega, ((ho1.keep EField.ok HK1.out hnb).keep EField.ok HK2.out hnr).more EField.ok fun k _ h => by omega⟩
 ·exact ((HE.out.ext HC.out).trans HK1.out fun k hk e => by omega).trans HK2.out fun k hk e => by omega
section
variable {P : Program} {l n : Nat}
end
end Go.Proofs.YtggkidnlmaindaaDoor
namespace Go.Proofs.YtggkidnlmaindaaDoor
open Go.RowKit Go.Shelf
attribute [local go_sem] Oper.semAt_some
structure Kid (w0 : World) (S : BS) (G : F → Prop) where
 key : ByteArray
 v : V
 A1 : Option Addr
 c1 : Nat
 A2 : Option Addr
 c2 : Nat
 at_ : VAt w0 S (.agg (vC v A1 c1 A2 c2)) v
 ok : G (.mk key v)
section
variable {w0 : World} {S : BS} {G : F → Prop}
def Kid.enc (x : Kid w0 S G) : Array Value := #[.string x.key, .agg (vC x.v x.A1 x.c1 x.A2 x.c2)]
end
end Go.Proofs.YtggkidnlmaindaaDoor
