/- LawWalk, CloneStep: laid together. -/
import Derived.Test.YtggkidnlmaindaaDoorPxB7
import Derived.Test.YtggkidnlmaindaaDoorPxB8
set_option linter.unusedSimpArgs false
set_option linter.unusedVariables false
set_option maxHeartbeats 25600000
set_option maxRecDepth 20000
namespace Go.Proofs.YtggkidnlmaindaaDoor
open Go.RowKit
theorem ty_st : TyInfo Tryd.prog 56 TSTEP 3 32 := by
 obtain ⟨i, h1, h2, h3, h4⟩ := info_parts (show (Tryd.prog.info? TSTEP).map (fun i => (i.zero, i.size, i.bytes)) = some (some (.agg #[.bool false, .int .i64 0, .string ⟨#[]⟩]), 3, 32) from by kernel_rfl)
 exact ⟨Tryd.underlying56, i, _, h1, h2, h3, h4, rfl⟩
def StOk (s : St) : Prop := (s.list = true ∧ s.key = ⟨#[]⟩ ∧ 0 ≤ s.i) ∨ (s.list = false ∧ s.i = 0)
structure WalkOk (v : V) (p : List St) : Prop where
 len : p.length ≤ 8
 ok : ∀ s ∈ p, StOk s
 get : ∃ x, getV v p = some x
theorem SV.kind4 {x : V} (h : SV x) (hl : 0 < x.l.length) : x.kind = 4 ∧ x.o = [] := by
 have hl' : x.l ≠ [] := fun e => by rw [e] at hl; simp at hl
 rcases (SV_iff x).1 h with ⟨h | h | h | h | h | h, _⟩
 ·exact absurd h.2.2.2.1 hl'
 ·exact absurd h.2.2.2.1 hl'
 ·exact absurd h.2.2.1 hl'
 ·exact absurd h.2.2.2.1 hl'
 ·exact ⟨h.1, h.2.2.2⟩
 ·exact absurd h.2.2.2 hl'
theorem SV.kind5 {x : V} (h : SV x) (hl : 0 < x.o.length) : x.kind = 5 ∧ x.l = [] := by
 have hl' : x.o ≠ [] := fun e => by rw [e] at hl; simp at hl
 rcases (SV_iff x).1 h with ⟨h | h | h | h | h | h, _⟩
 ·exact absurd h.2.2.2.2 hl'
 ·exact absurd h.2.2.2.2 hl'
 ·exact absurd h.2.2.2 hl'
 ·exact absurd h.2.2.2.2 hl'
 ·exact absurd h.2.2.2 hl'
 ·exact ⟨h.1, h.2.2.2⟩
theorem SV.childL {x : V} (h : SV x) {i : Nat} (hi : i < x.l.length) : SV x.l[i] := (SVs_iff _).1 ((SV_iff x).1 h).2.1 _ (List.getElem_mem hi)
theorem SV.childO {x : V} (h : SV x) {i : Nat} (hi : i < x.o.length) : SV x.o[i].v := ((SF_iff _).1 ((SFs_iff _).1 ((SV_iff x).1 h).2.2.1 _ (List.getElem_mem hi))).2
theorem step_list {x : V} (h : SV x) {k : Nat} (hk : k < x.l.length) : stepV x ⟨true, k, ⟨#[]⟩⟩ = some (.l k) ∧ x.child? (.l k) = some x.l[k] := by
 refine ⟨?_, by rw [child_l]; simp [hk]⟩
 rw [stepV_l rfl, if_pos ⟨(h.kind4 (by omega)).1, by simp only; omega, by simp only; omega⟩]
 rfl
theorem step_obj {x : V} (h : SV x) {k : Nat} (hk : k < x.o.length) : stepV x ⟨false, 0, x.o[k].key⟩ = some (.o k) ∧ x.child? (.o k) = some x.o[k].v := by
 have h1 := fieldL_of ((SV_iff x).1 h).2.2.2 hk
 refine ⟨?_, by rw [child_o]; simp [hk]⟩
 rw [stepV_o rfl, if_pos ⟨(h.kind5 (by omega)).1, h1.2⟩, h1.1]
theorem get_next {v x y : V} {p : List St} {s : St} {loc : Loc} (h : getV v p = some x) (h1 : stepV x s = some loc) (h2 : x.child? loc = some y) : getV v (p ++ [s]) = some y := by
 rw [getV_snoc, h, Option.bind_some, h1, Option.bind_some, h2]
def WalkIs (v : V) (w : World) (e : Ending) (w' : World) : Prop := ∃ u p, e = .returned u ∧ Own ESt w' w.heap.size TSTEP (fun _ => False) u p ∧ WalkOk v p ∧ Ext w w'
theorem walk_ok (v : V) (u cv : Value) (cl : List UInt8) (S S2 : BS) (w : World) (hv : VAt w S u v) (hsv : SV v) (hsz : v.size ≤ 1000000) (hc : BytesS w S2 cv cl) :
  Calls Tryd.prog 65 #[u, cv] w (WalkIs v w) := by
 obtain ⟨lv, ov, rfl, hl, ho⟩ := hv.cut
 obtain ⟨A, c, rfl, _, _⟩ := hl.shape
 obtain ⟨A', c', rfl, _, _⟩ := ho.shape
 obtain ⟨Ac, cc, rfl, hcl, hccm⟩ := hc.shape
 unfold maxLen at hccm
 have hE0 : Ext w (w.alloc (.cells (vC v A c A' c') TVAL)) := (Keep.refl _ _).alloc _
 have hb0 : Blk (w.alloc (.cells (vC v A c A' c') TVAL)) w.heap.size TVAL (vC v A c A' c') := Blk.new _ _ _
 have HE0 := hid hE0
 have HB0 := hid hb0
 have HV := hid (show VAt (w.alloc (.cells (vC v A c A' c') TVAL)) (fun q => q < w.heap.size) (.agg (vC v A c A' c')) v from (VAt.ext ⟨_, _, rfl, hl, ho⟩ hE0).more fun q _ h => h.2)
 have HCL := hid ((hc.more EU8.ok (S' := fun q => q < w.heap.size) (fun q h _ => h)).ext EU8.ok hE0)
 have HSV := hid hsv
 have HSZ := hid hsz
 clear hv hsv hsz hc hl ho hE0 hb0
 go_enter Tryd.func65, Tryd.ntmps65
 go_wp2_with fail
 generalize w.alloc (.cells (vC v A c A' c') TVAL) = w0 at *
 have hw0 : w.heap.size < w0.heap.size := HB0.out.lt
 go_loopw [5, 6, 7, 8] (fun out i _ _ wr => ∃ (j : Nat) (p : List St) (x : V) (lv ov : Value), i = .int .i64 j ∧ j ≤ 8 ∧ j ≤ cl.length ∧ p.length ≤ j ∧ (∀ s ∈ p, StOk s) ∧ getV v p = some x ∧ SV x ∧ x.size ≤ 1000000 ∧
  Own ESt wr w0.heap.size TSTEP (fun _ => False) out p ∧ Blk wr w.heap.size TVAL #[U8 x.kind, .int .i64 x.n, .string x.s, lv, ov] ∧ VAt wr (fun q => q < w.heap.size) (.agg #[U8 x.kind, .int .i64 x.n, .string x.s, lv, ov]) x ∧ Keep (· = w.heap.size) w0 wr) (fun _ i _ _ _ => 8 - (intOf i).toNat)
 case atStart => exact ⟨0, [], v, _, _, rfl, by omega, by omega, by simp, by simp, rfl, HSV.out, HSZ.out, Own.nil _ _ _ _, HB0.out, HV.out, Keep.refl _ _⟩
 case round =>
  obtain ⟨j, p, x, lv, ov, rfl, hj8, hjc, hpj, hpo, hg, hsx, hzx, hown, hb, hva, hkr⟩ := hrel
  obtain ⟨A1, c1, rfl, hpl, hpc⟩ := hown.shape
  obtain ⟨lv', ov', e, hxl, hxo⟩ := hva
  obtain ⟨e1, e2⟩ : lv = lv' ∧ ov = ov' := by simp at e; exact e
  subst e1 e2
  clear e
  obtain ⟨A2, c2, rfl, h2l, h2m⟩ := hxl.shape
  obtain ⟨A3, c3, rfl, h3l, h3m⟩ := hxo.shape
  unfold maxLen at h2m h3m
  have HO := hid hown
  have HB := hid hb
  have HXL := hid hxl
  have HXO := hid hxo
  have HK := hid hkr
  have HP := hid (And.intro hpo (And.intro hg (And.intro hsx hzx)))
  obtain ⟨q0, q1, q2, q3, q4⟩ := blk5 hb
  obtain ⟨f0, f1, f2, f3, f4⟩ := sqf5 hb
  have hkz := hkr.size
  have HCr := hid (HCL.out.keep EU8.ok hkr fun q hq e => by omega)
  clear hown hb hxl hxo hkr hpo hg hsx hzx
  by_cases hgo : j < cl.length ∧ j < 8
  ·obtain ⟨h1, h2⟩ := hgo
   have h1X : (j : Int) < cl.length := by omega
   have h2X : (j : Int) < 8 := by omega
   obtain ⟨bc, oc, rfl, _, _, hcc⟩ := bytesS_at HCr.out h1
   generalize cl[j] = ch at *
   by_cases hL : 0 < x.l.length
   ·have hLX : (0 : Int) < x.l.length := by omega
    obtain ⟨k, hk, hkl⟩ : ∃ k : Nat, (ch.toNat : Int) % (x.l.length : Int) = k ∧ k < x.l.length := ⟨ch.toNat % x.l.length, by simp, Nat.mod_lt _ hL⟩
    have hln : ¬ x.l = [] := fun e => by rw [e] at hkl; simp at hkl
    have hwc : IntKind.i64.wrap (ch.toNat : Int) = (ch.toNat : Int) := IntWalk.i64_in _ (by have := ch.toNat_lt; omega)
    have htm : (ch.toNat : Int).tmod (x.l.length : Int) = (k : Int) := by rw [Int.tmod_eq_emod_of_nonneg (by omega)]; exact hk
    obtain ⟨by_, oy, c0, rfl, hbs, _, hrd, hcell⟩ := HXL.out.at_ EVal.ok hkl
    have hnx := step_list HP.out.2.2.1 hkl
    have hsy := SV.childL HP.out.2.2.1 hkl
    have hzy : (x.l[k]).size ≤ 1000000 := Nat.le_trans (child_size hnx.2) HP.out.2.2.2
    generalize x.l[k] = y at *
    obtain ⟨A4, n4, c4, A5, n5, c5, rfl, _, _, hvy⟩ := EVal_cells hrd
    have p0 := hcell 0 _ rfl
    have p1 := hcell 1 _ rfl
    have p2 := hcell 2 _ rfl
    have p3 := hcell 3 _ rfl
    have p4 := hcell 4 _ rfl
    have hz : EVal.size = 5 := rfl
    simp only [hz, Nat.add_zero] at p0 p1 p2 p3 p4
    have HVY := hid hvy
    have hpo2 : ∀ s ∈ p ++ [(⟨true, (k : Int), ⟨#[]⟩⟩ : St)], StOk s := fun s hs => by
     rcases List.mem_append.1 hs with h | h
     ·exact HP.out.1 s h
     ·rw [List.mem_singleton.1 h]; exact .inl ⟨rfl, rfl, by simp only; omega⟩
    have HP2 := hid (And.intro hpo2 (And.intro (get_next HP.out.2.1 hnx.1 hnx.2) (And.intro hsy hzy)))
    clear hcell hz hrd hvy hnx hsy hzy hpo2
    go_wp2_with fail
    refine wp_region_grow (specOf []) (fun w' => Ext wr w') stable_nil (stableC_ext _) (by kernel_rfl) (by kernel_rfl) (Keep.drew (Keep.refl _ _)) ?_
    iterate 10
     (try simp only [Act.put, sqa, sqb, sqc])
     refine grow_run rfl rfl rfl ?_
     apply Exists.intro
     refine ⟨fun w' hC hK => ?_, ?_⟩
     ·have hcc := sqw hC hcc
      have q3 := sqw hC q3
      go_simp
      rfl
    refine grow_nil fun w1 hC _ => ?_
    have hC : Ext wr w1 := hC
    replace q0 := sqw hC q0
    replace q1 := sqw hC q1
    replace q2 := sqw hC q2
    replace q3 := sqw hC q3
    replace q4 := sqw hC q4
    replace p0 := sqw hC p0
    replace p1 := sqw hC p1
    replace p2 := sqw hC p2
    replace p3 := sqw hC p3
    replace p4 := sqw hC p4
    have hb1 := HB.out.keep hC id
    obtain ⟨f0, f1, f2, f3, f4⟩ := sqf5 hb1
    have HOb := hid ((HO.out.ext ESt.ok hC).ext ESt.ok ((Keep.refl (fun _ => False) w1).alloc (.cells #[.bool true, .int .i64 (k : Int), .string ⟨#[]⟩] TSTEP)))
    have HRx := hid (RowS.new (w := w1) (t := TSTEP) (sz := 3) (n := 1) (cs := [.bool true, .int .i64 (k : Int), .string ⟨#[]⟩]) rfl (by simp [maxLen]) (0, 0))
    have HDx := hid (Cells.single (E := ESt) (w := w1.alloc (.cells #[.bool true, .int .i64 (k : Int), .string ⟨#[]⟩] TSTEP)) (S := fun _ => False) (x := (⟨true, (k : Int), ⟨#[]⟩⟩ : St)) rfl)
    have hk1z := hC.size
    have HC1 := hid hC
    have HB1 := hid hb1
    clear hC hcc hk hb1 hwc htm hln
    go_wp2_with (at_builtin; refine wpList_own_append2 (ys := [(⟨true, (k : Int), ⟨#[]⟩⟩ : St)]) _ rfl (.tmp 32) (.tmp 35) ESt.ok ty_st rfl rfl rfl HOb.out HRx.out HDx.out ?d1 ?d2 ?d3 ?d4 ?_)
    try case d2 => first | omega | (simp only [List.length_singleton]; omega)
    try case d3 => simp only [maxLen]; omega
    try case d4 => omega
    intro v' w' hown' hk' hb'
    obtain ⟨A7, c7, hv7, hl7, hc7⟩ := hown'.shape
    rw [show (p ++ [(⟨true, (k : Int), ⟨#[]⟩⟩ : St)]).length = p.length + 1 from by simp] at hv7
    subst hv7
    have hnb : ∀ g, (Value.slice A1 p.length c1).ownBlock = some g → w0.heap.size ≤ g ∧ g < wr.heap.size := fun g hg => HO.out.lt hg
    have hkw : Keep (fun q => (Value.slice A1 p.length c1).ownBlock = some q) w1 w' := (Keep.alloc (Keep.refl (fun q => (Value.slice A1 p.length c1).ownBlock = some q) w1) _).trans hk' fun q _ e => e
    have hbw := HB1.out.keep hkw (fun e => by have := (hnb _ e).1; omega)
    have hvw : VAt w' (fun q => q < w.heap.size) (.agg (vC y A4 c4 A5 c5)) y := (HVY.out.ext HC1.out).keep hkw fun q hq e => by have := (hnb _ e).1; omega
    have hbylt : by_ < w1.heap.size := by omega
    have hbyne : ¬ (Value.slice A1 p.length c1).ownBlock = some by_ := fun e => by have := (hnb _ e).1; omega
    replace p0 := (hkw.cell hbylt hbyne).trans p0
    replace p1 := (hkw.cell hbylt hbyne).trans p1
    replace p2 := (hkw.cell hbylt hbyne).trans p2
    replace p3 := (hkw.cell hbylt hbyne).trans p3
    replace p4 := (hkw.cell hbylt hbyne).trans p4
    obtain ⟨q0, q1, q2, q3, q4⟩ := blk5 hbw
    obtain ⟨f0, f1, f2, f3, f4⟩ := sqf5 hbw
    have hk5 := set5_keep w' w.heap.size 0 (U8 y.kind) (.int .i64 y.n) (.string y.s) (.slice A4 y.l.length c4) (.slice A5 y.o.length c5)
    have hbr := set5_to hbw rfl (U8 y.kind) (.int .i64 y.n) (.string y.s) (.slice A4 y.l.length c4) (.slice A5 y.o.length c5)
    have hww : wr.heap.size ≤ w'.heap.size := Nat.le_trans hk1z hkw.size
    have ho5 : Own ESt (set5 w' w.heap.size 0 (U8 y.kind) (.int .i64 y.n) (.string y.s) (.slice A4 y.l.length c4) (.slice A5 y.o.length c5)) w0.heap.size TSTEP (fun _ => False) (.slice A7 (p.length + 1) c7) (p ++ [(⟨true, (k : Int), ⟨#[]⟩⟩ : St)]) :=
     (hown'.more ESt.ok (S' := fun _ => False) fun q _ h => by first | exact h | exact h.elim id id).keep ESt.ok hk5 (fun q hq => hq.elim) (fun g hg e => by have := (hown'.lt hg).1; omega)
    have hkk : Keep (· = w.heap.size) w0 (set5 w' w.heap.size 0 (U8 y.kind) (.int .i64 y.n) (.string y.s) (.slice A4 y.l.length c4) (.slice A5 y.o.length c5)) :=
     ((HK.out.trans (HC1.out.mono fun _ _ x => x.elim) (fun _ _ h => h)).trans hkw (fun q hq e => by have := (hnb q e).1; omega)).trans hk5 (fun q _ e => e)
    have HREL := hid (And.intro ho5 (And.intro hbr (And.intro (hvw.keep hk5 fun q hq e => by omega) hkk)))
    have hlp : (p ++ [(⟨true, (k : Int), ⟨#[]⟩⟩ : St)]).length = p.length + 1 := by simp
    generalize p ++ [(⟨true, (k : Int), ⟨#[]⟩⟩ : St)] = p2 at *
    have HLP := hid hlp
    clear hown' hk' hb' hkw hbw hvw hk5 hbr ho5 hkk HO HOb HRx HDx HB HB1 HK HXL HXO HP hlp hnb hbyne
    go_wp2
    exact ⟨⟨j + 1, p2, y, _, _, by go_num, by omega, by omega, by have := HLP.out; omega, HP2.out.1, HP2.out.2.1, HP2.out.2.2.1, HP2.out.2.2.2, HREL.out.1, HREL.out.2.1, HREL.out.2.2.1, HREL.out.2.2.2⟩, by simp [intOf]; omega⟩
   ·have hL0 : x.l.length = 0 := by omega
    by_cases hO : 0 < x.o.length
    ·have hLX : (0 : Int) < x.o.length := by omega
     obtain ⟨k, hk, hkl⟩ : ∃ k : Nat, (ch.toNat : Int) % (x.o.length : Int) = k ∧ k < x.o.length := ⟨ch.toNat % x.o.length, by simp, Nat.mod_lt _ hO⟩
     have hln : ¬ x.o = [] := fun e => by rw [e] at hkl; simp at hkl
     have hwc : IntKind.i64.wrap (ch.toNat : Int) = (ch.toNat : Int) := IntWalk.i64_in _ (by have := ch.toNat_lt; omega)
     have htm : (ch.toNat : Int).tmod (x.o.length : Int) = (k : Int) := by rw [Int.tmod_eq_emod_of_nonneg (by omega)]; exact hk
     obtain ⟨by_, oy, c0, rfl, hbs, _, hrd, hcell⟩ := HXO.out.at_ EField.ok hkl
     have hnx := step_obj HP.out.2.2.1 hkl
     have hsy := SV.childO HP.out.2.2.1 hkl
     have hzy : (x.o[k]).v.size ≤ 1000000 := Nat.le_trans (child_size hnx.2) HP.out.2.2.2
     generalize x.o[k] = fy at *
     obtain ⟨ykey, y⟩ := fy
     obtain ⟨lv4, ov4, rfl, ⟨A4, c4, rfl⟩, ⟨A5, c5, rfl⟩, hvy⟩ := EField_cells hrd
     have pk := hcell 0 _ rfl
     have p0 := hcell 1 _ rfl
     have p1 := hcell 2 _ rfl
     have p2 := hcell 3 _ rfl
     have p3 := hcell 4 _ rfl
     have p4 := hcell 5 _ rfl
     have hz : EField.size = 6 := rfl
     simp only [hz, Nat.add_zero, F.key, F.v] at pk p0 p1 p2 p3 p4 hvy hnx hsy hzy
     have HVY := hid hvy
     have hpo2 : ∀ s ∈ p ++ [(⟨false, 0, ykey⟩ : St)], StOk s := fun s hs => by
      rcases List.mem_append.1 hs with h | h
      ·exact HP.out.1 s h
      ·rw [List.mem_singleton.1 h]; exact .inr ⟨rfl, rfl⟩
     have HP2 := hid (And.intro hpo2 (And.intro (get_next HP.out.2.1 hnx.1 hnx.2) (And.intro hsy hzy)))
     clear hcell hz hrd hvy hnx hsy hzy hpo2
     go_wp2_with fail
     refine wp_region_grow (specOf []) (fun w' => Ext wr w') stable_nil (stableC_ext _) (by kernel_rfl) (by kernel_rfl) (Keep.drew (Keep.refl _ _)) ?_
     iterate 10
      (try simp only [Act.put, sqa, sqb, sqc])
      refine grow_run rfl rfl rfl ?_
      apply Exists.intro
      refine ⟨fun w' hC hK => ?_, ?_⟩
      ·have hcc := sqw hC hcc
       have q4 := sqw hC q4
       go_simp
       rfl
     refine grow_nil fun w1 hC _ => ?_
     have hC : Ext wr w1 := hC
     replace q0 := sqw hC q0
     replace q1 := sqw hC q1
     replace q2 := sqw hC q2
     replace q3 := sqw hC q3
     replace q4 := sqw hC q4
     replace p0 := sqw hC p0
     replace p1 := sqw hC p1
     replace p2 := sqw hC p2
     replace p3 := sqw hC p3
     replace p4 := sqw hC p4
     replace pk := sqw hC pk
     have hb1 := HB.out.keep hC id
     obtain ⟨f0, f1, f2, f3, f4⟩ := sqf5 hb1
     have HOb := hid ((HO.out.ext ESt.ok hC).ext ESt.ok ((Keep.refl (fun _ => False) w1).alloc (.cells #[.bool false, .int .i64 0, .string ykey] TSTEP)))
     have HRx := hid (RowS.new (w := w1) (t := TSTEP) (sz := 3) (n := 1) (cs := [.bool false, .int .i64 0, .string ykey]) rfl (by simp [maxLen]) (0, 0))
     have HDx := hid (Cells.single (E := ESt) (w := w1.alloc (.cells #[.bool false, .int .i64 0, .string ykey] TSTEP)) (S := fun _ => False) (x := (⟨false, 0, ykey⟩ : St)) rfl)
     have hk1z := hC.size
     have HC1 := hid hC
     have HB1 := hid hb1
     clear hC hcc hk hb1 hwc htm hln
     go_wp2_with (at_builtin; refine wpList_own_append2 (ys := [(⟨false, 0, ykey⟩ : St)]) _ rfl (.tmp 55) (.tmp 63) ESt.ok ty_st rfl rfl rfl HOb.out HRx.out HDx.out ?e1 ?e2 ?e3 ?e4 ?_)
     try case e2 => first | omega | (simp only [List.length_singleton]; omega)
     try case e3 => simp only [maxLen]; omega
     try case e4 => omega
     intro v' w' hown' hk' hb'
     obtain ⟨A7, c7, hv7, hl7, hc7⟩ := hown'.shape
     rw [show (p ++ [(⟨false, 0, ykey⟩ : St)]).length = p.length + 1 from by simp] at hv7
     subst hv7
     have hnb : ∀ g, (Value.slice A1 p.length c1).ownBlock = some g → w0.heap.size ≤ g ∧ g < wr.heap.size := fun g hg => HO.out.lt hg
     have hkw : Keep (fun q => (Value.slice A1 p.length c1).ownBlock = some q) w1 w' := (Keep.alloc (Keep.refl (fun q => (Value.slice A1 p.length c1).ownBlock = some q) w1) _).trans hk' fun q _ e => e
     have hbw := HB1.out.keep hkw (fun e => by have := (hnb _ e).1; omega)
     have hvw : VAt w' (fun q => q < w.heap.size) (.agg (vC y A4 c4 A5 c5)) y := (HVY.out.ext HC1.out).keep hkw fun q hq e => by have := (hnb _ e).1; omega
     have hbylt : by_ < w1.heap.size := by omega
     have hbyne : ¬ (Value.slice A1 p.length c1).ownBlock = some by_ := fun e => by have := (hnb _ e).1; omega
     replace p0 := (hkw.cell hbylt hbyne).trans p0
     replace p1 := (hkw.cell hbylt hbyne).trans p1
     replace p2 := (hkw.cell hbylt hbyne).trans p2
     replace p3 := (hkw.cell hbylt hbyne).trans p3
     replace p4 := (hkw.cell hbylt hbyne).trans p4
     obtain ⟨q0, q1, q2, q3, q4⟩ := blk5 hbw
     obtain ⟨f0, f1, f2, f3, f4⟩ := sqf5 hbw
     have hk5 := set5_keep w' w.heap.size 0 (U8 y.kind) (.int .i64 y.n) (.string y.s) (.slice A4 y.l.length c4) (.slice A5 y.o.length c5)
     have hbr := set5_to hbw rfl (U8 y.kind) (.int .i64 y.n) (.string y.s) (.slice A4 y.l.length c4) (.slice A5 y.o.length c5)
     have hww : wr.heap.size ≤ w'.heap.size := Nat.le_trans hk1z hkw.size
     have ho5 : Own ESt (set5 w' w.heap.size 0 (U8 y.kind) (.int .i64 y.n) (.string y.s) (.slice A4 y.l.length c4) (.slice A5 y.o.length c5)) w0.heap.size TSTEP (fun _ => False) (.slice A7 (p.length + 1) c7) (p ++ [(⟨false, 0, ykey⟩ : St)]) :=
      (hown'.more ESt.ok (S' := fun _ => False) fun q _ h => by first | exact h | exact h.elim id id).keep ESt.ok hk5 (fun q hq => hq.elim) (fun g hg e => by have := (hown'.lt hg).1; omega)
     have hkk : Keep (· = w.heap.size) w0 (set5 w' w.heap.size 0 (U8 y.kind) (.int .i64 y.n) (.string y.s) (.slice A4 y.l.length c4) (.slice A5 y.o.length c5)) :=
      ((HK.out.trans (HC1.out.mono fun _ _ x => x.elim) (fun _ _ h => h)).trans hkw (fun q hq e => by have := (hnb q e).1; omega)).trans hk5 (fun q _ e => e)
     have HREL := hid (And.intro ho5 (And.intro hbr (And.intro (hvw.keep hk5 fun q hq e => by omega) hkk)))
     have hlp : (p ++ [(⟨false, 0, ykey⟩ : St)]).length = p.length + 1 := by simp
     generalize p ++ [(⟨false, 0, ykey⟩ : St)] = p2 at *
     have HLP := hid hlp
     clear hown' hk' hb' hkw hbw hvw hk5 hbr ho5 hkk HO HOb HRx HDx HB HB1 HK HXL HXO HP hlp hnb hbyne
     go_wp2
     exact ⟨⟨j + 1, p2, y, _, _, by go_num, by omega, by omega, by have := HLP.out; omega, HP2.out.1, HP2.out.2.1, HP2.out.2.2.1, HP2.out.2.2.2, HREL.out.1, HREL.out.2.1, HREL.out.2.2.1, HREL.out.2.2.2⟩, by simp [intOf]; omega⟩
    ·have hO0 : x.o.length = 0 := by omega
     have HREL := hid (And.intro HO.out (And.intro HB.out (And.intro (show VAt wr (fun q => q < w.heap.size) (.agg (vC x A2 c2 A3 c3)) x from ⟨_, _, rfl, HXL.out, HXO.out⟩) HK.out)))
     clear HO HB HXL HXO HK hcc
     go_wp2
     exact ⟨⟨j + 1, p, x, _, _, by go_num, by omega, by omega, by omega, HP.out.1, HP.out.2.1, HP.out.2.2.1, HP.out.2.2.2, HREL.out.1, HREL.out.2.1, HREL.out.2.2.1, HREL.out.2.2.2⟩, by simp [intOf]; omega⟩
  ·have HR := hid (show WalkIs v w (.returned (.slice A1 p.length c1)) wr from ⟨_, p, rfl, HO.out.less (by omega), ⟨by omega, HP.out.1, _, HP.out.2.1⟩, HE0.out.trans HK.out fun q hq e => by omega⟩)
   clear HO HB HXL HXO HK HCr
   by_cases h1 : j < cl.length
   ·have h2 : ¬ j < 8 := fun h => hgo ⟨h1, h⟩
    clear hgo
    go_wp2
    go_ret
    exact HR.out
   ·clear hgo
    go_wp2
    go_ret
    exact HR.out
theorem clone_steps (v : Value) (l : List _) (S : BS) (w : World) (hv : Sl ESt w S v l) (hl : l.length ≤ 1000000) (hSr : ∀ k, S k → k < w.heap.size) :
  Calls Tryd.prog 62 #[v] w fun e w' => ∃ v', e = .returned v' ∧ Own ESt w' w.heap.size TSTEP S v' l ∧ Ext w w' := by
 obtain ⟨A, c, rfl, h1, h2⟩ := hv.shape
 unfold maxLen at h2
 cases A with
 | none =>
  have hn : l = [] := by
   obtain ⟨cs, ⟨_, A', c', e, _, _, h3⟩, _⟩ := hv
   rcases Nat.eq_zero_or_pos l.length with h0 | h0
   ·exact List.eq_nil_of_length_eq_zero h0
   ·obtain ⟨b, off, e', _⟩ := h3 h0
    injection e with e1 _ _
    rw [e'] at e1
    cases e1
  subst hn
  have heq := Lib.run_eql_slice_nil (P := Tryd.prog) w 56 TSTEP none 0 c 0 0 Tryd.underlying56
  rw [List.length_nil]
  go_enter Tryd.func62, Tryd.ntmps62
  go_wp2
  go_ret
  exact ⟨_, rfl, Own.nil _ _ _ _, Keep.refl _ _⟩
 | some a =>
  have heq := Lib.run_eql_slice_nil (P := Tryd.prog) w 56 TSTEP (some a) l.length c 0 0 Tryd.underlying56
  have hown : Own ESt (w.alloc (.cells #[] TSTEP)) w.heap.size TSTEP (fun _ => False) (.slice (some ⟨w.heap.size, 0, none⟩) 0 0) [] :=
   .inr ⟨w.heap.size, 0, #[], rfl, Nat.le_refl _, Blk.new _ _ _, by simp, by simp [maxLen], by simp, rfl⟩
  have hsrc := hv.ext ESt.ok ((Keep.refl _ _).alloc (.cells #[] TSTEP))
  have HSr := hid hSr
  clear hSr
  go_enter Tryd.func62, Tryd.ntmps62
  go_wp2_with (at_builtin; refine wpList_own_append _ rfl (.tmp 5) (.tmp 6) ESt.ok ty_st rfl rfl rfl hown hsrc ?c1 ?c2 ?c3 ?c4 ?_)
  case c1 => intro g hg; have hg : w.heap.size = g := Option.some.inj hg; exact ⟨id, fun h => by have := HSr.out _ h; omega⟩
  case c2 => simp; omega
  case c3 => simp [maxLen]; omega
  case c4 => simp
  intro v' w' hown' hk hb
  have hE : Ext w w' := ((Keep.refl (fun _ => False) w).alloc _).trans hk (fun k hlt e => by have e : w.heap.size = k := Option.some.inj e; omega)
  have H := hid (hown'.more (S' := S) ESt.ok (fun k _ h => by first | exact h | exact Or.elim h False.elim id))
  clear hown' hb hsrc hown
  go_wp2
  go_ret
  exact ⟨_, rfl, H.out, hE⟩
end Go.Proofs.YtggkidnlmaindaaDoor
