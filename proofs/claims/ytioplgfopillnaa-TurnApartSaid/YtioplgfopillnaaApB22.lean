/- RefGet: laid together. -/
import Derived.Test.YtioplgfopillnaaApB20
import Derived.Test.YtioplgfopillnaaApB21
import Derived.Test.YtioplgfopillnaaApB9
import Derived.Test.YtioplgfopillnaaApB8
/- RefStep, RefGet in one. -/
set_option linter.unusedSimpArgs false
set_option linter.unusedVariables false
/- The reference's step, by contract. -/
namespace Go.Proofs.Ytioplgfopillnaa
open Go.RowKit
set_option linter.unusedVariables false

theorem cell_some {w : World} {g : Nat} {T : TypeId} {cur : Array Value} (h : Blk w g T cur) {i : Nat} (hi : i < cur.size) : ∃ u, w.cell? ⟨g, i, none⟩ = some u := ⟨cur[i], by rw [h.cell]; simp [hi]⟩
/-- A box of results filled. -/
theorem ret5 {w0 w : World} {g : Nat} (hE : Ext w0 w) (hg : w0.heap.size ≤ g) (hb : Blk w g TVAL #[.int .u8 0, .int .i64 0, .string ⟨#[]⟩, .slice none 0 0, .slice none 0 0]) (a b c d e : Value) :
    Ext w0 (fillW w g a b c d e) ∧ (fillW w g a b c d e).cell? ⟨g, 0, none⟩ = some a ∧ (fillW w g a b c d e).cell? ⟨g, 1, none⟩ = some b ∧ (fillW w g a b c d e).cell? ⟨g, 2, none⟩ = some c ∧ (fillW w g a b c d e).cell? ⟨g, 3, none⟩ = some d ∧ (fillW w g a b c d e).cell? ⟨g, 4, none⟩ = some e := by
  have hk : Keep (· = g) w (fillW w g a b c d e) := set5_keep w g 0 _ _ _ _ _
  obtain ⟨t0, t1, t2, t3, t4⟩ := blk5 (show Blk (fillW w g a b c d e) g TVAL #[a, b, c, d, e] from set5_to hb rfl _ _ _ _ _)
  exact ⟨hE.trans hk fun q hq e => by omega, t0, t1, t2, t3, t4⟩
/-- Operation k fills box g. -/
def FillAt (k g i : Nat) (w w' : World) : Prop := i = k ∧ ∃ a b c d e, w' = fillW w g a b c d e
def Blk5 (w : World) (g : Nat) : Prop := ∃ cur, cur.size = 5 ∧ Blk w g TVAL cur
def Loc.idx : Loc → Nat
  | .l i => i
  | .o i => i
/-- What the reference's step hands back. -/
def StepIs (w : World) (S : BS) (x : V) (s : St) (e : Ending) (w' : World) : Prop := match stepV x s with
  | none => e = .returned (.tuple #[ZVAL, .int .i64 0, .int .i64 30])
  | some loc => ∃ u y, x.child? loc = some y ∧ e = .returned (.tuple #[u, .int .i64 (loc.idx : Int), .int .i64 0]) ∧ VAt w' S u y

set_option maxHeartbeats 1600000 in
theorem step_ok (w : World) (S : BS) (u : Value) (x : V) (s : St) (h : VAt w S u x) :
    Calls Try.prog 27 #[u, stV s] w fun e w' => StepIs w' S x s e w' ∧ Ext w w' := by
  obtain ⟨lv, ov, rfl, hl, ho⟩ := h
  obtain ⟨A, c, rfl, hlc, hcm⟩ := hl.shape
  obtain ⟨A', c', rfl, hlc', hcm'⟩ := ho.shape
  unfold maxLen at hcm hcm'
  have HL := hid hl
  have HO := hid ho
  have HV := hid (show VAt w S (.agg #[U8 x.kind, .int .i64 x.n, .string x.s, .slice A x.l.length c, .slice A' x.o.length c']) x from ⟨_, _, rfl, hl, ho⟩)
  obtain ⟨w1, hw1⟩ : ∃ w1, w1 = w.alloc (.cells #[U8 x.kind, .int .i64 x.n, .string x.s, .slice A x.l.length c, .slice A' x.o.length c'] TVAL) := ⟨_, rfl⟩
  obtain ⟨w2, hw2⟩ : ∃ w2, w2 = w1.alloc (.cells #[.bool s.list, .int .i64 s.i, .string s.key] TSTEP) := ⟨_, rfl⟩
  obtain ⟨w3, hw3⟩ : ∃ w3, w3 = w2.alloc (.cells #[.int .u8 0, .int .i64 0, .string ⟨#[]⟩, .slice none 0 0, .slice none 0 0] TVAL) := ⟨_, rfl⟩
  have hz1 : w1.heap.size = w.heap.size + 1 := by rw [hw1]; simp
  have hz2 : w2.heap.size = w.heap.size + 2 := by rw [hw2]; simp [hz1]
  have hE1 : Ext w w1 := by rw [hw1]; exact (Keep.refl _ _).alloc _
  have hE2 : Ext w1 w2 := by rw [hw2]; exact (Keep.refl _ _).alloc _
  have hE3 : Ext w2 w3 := by rw [hw3]; exact (Keep.refl _ _).alloc _
  have hb1 : Blk w3 w.heap.size TVAL #[U8 x.kind, .int .i64 x.n, .string x.s, .slice A x.l.length c, .slice A' x.o.length c'] := by
    have := Blk.new w TVAL #[U8 x.kind, .int .i64 x.n, .string x.s, .slice A x.l.length c, .slice A' x.o.length c']
    rw [← hw1] at this
    exact (this.keep hE2 id).keep hE3 id
  have hb2 : Blk w3 (w.heap.size + 1) TSTEP #[.bool s.list, .int .i64 s.i, .string s.key] := by
    have := Blk.new w1 TSTEP #[.bool s.list, .int .i64 s.i, .string s.key]
    rw [← hw2, hz1] at this
    exact this.keep hE3 id
  have hb3 : Blk w3 (w.heap.size + 2) TVAL #[.int .u8 0, .int .i64 0, .string ⟨#[]⟩, .slice none 0 0, .slice none 0 0] := by
    have := Blk.new w2 TVAL #[.int .u8 0, .int .i64 0, .string ⟨#[]⟩, .slice none 0 0, .slice none 0 0]
    rwa [← hw3, hz2] at this
  have hE : Ext w w3 := (hE1.ext hE2).ext hE3
  have HE := hid hE
  have HB3 := hid hb3
  have e3 : w3 = ((w.alloc (.cells #[U8 x.kind, .int .i64 x.n, .string x.s, .slice A x.l.length c, .slice A' x.o.length c'] TVAL)).alloc (.cells #[.bool s.list, .int .i64 s.i, .string s.key] TSTEP)).alloc (.cells #[.int .u8 0, .int .i64 0, .string ⟨#[]⟩, .slice none 0 0, .slice none 0 0] TVAL) := by rw [hw3, hw2, hw1]
  have q0 : w3.cell? ⟨w.heap.size, 0, none⟩ = some (U8 x.kind) := hb1.cell 0
  have q1 : w3.cell? ⟨w.heap.size, 1, none⟩ = some (.int .i64 x.n) := hb1.cell 1
  have q2 : w3.cell? ⟨w.heap.size, 2, none⟩ = some (.string x.s) := hb1.cell 2
  have q3 : w3.cell? ⟨w.heap.size, 3, none⟩ = some (.slice A x.l.length c) := hb1.cell 3
  have q4 : w3.cell? ⟨w.heap.size, 4, none⟩ = some (.slice A' x.o.length c') := hb1.cell 4
  have s0 : w3.cell? ⟨w.heap.size + 1, 0, none⟩ = some (.bool s.list) := hb2.cell 0
  have s1 : w3.cell? ⟨w.heap.size + 1, 1, none⟩ = some (.int .i64 s.i) := hb2.cell 1
  have s2 : w3.cell? ⟨w.heap.size + 1, 2, none⟩ = some (.string s.key) := hb2.cell 2
  have r0 : w3.cell? ⟨w.heap.size + 2, 0, none⟩ = some (.int .u8 0) := hb3.cell 0
  have r1 : w3.cell? ⟨w.heap.size + 2, 1, none⟩ = some (.int .i64 0) := hb3.cell 1
  have r2 : w3.cell? ⟨w.heap.size + 2, 2, none⟩ = some (.string ⟨#[]⟩) := hb3.cell 2
  have r3 : w3.cell? ⟨w.heap.size + 2, 3, none⟩ = some (.slice none 0 0) := hb3.cell 3
  have r4 : w3.cell? ⟨w.heap.size + 2, 4, none⟩ = some (.slice none 0 0) := hb3.cell 4
  have f0 := hb3.frozen 0
  have f1 := hb3.frozen 1
  have f2 := hb3.frozen 2
  have f3 := hb3.frozen 3
  have f4 := hb3.frozen 4
  have HZ := hid (show w.heap.size + 2 < w3.heap.size from hb3.lt)
  clear hw1 hw2 hw3 hE1 hE2 hE3 hb1 hb2 hb3 hz1 hz2 hE hl ho w1 w2
  have HX := hid (show w.heap.size ≤ w.heap.size + 2 from by omega)
  obtain ⟨sl, si, sk⟩ := s
  simp only at *
  have hnone : ∀ (hs : stepV x ⟨sl, si, sk⟩ = none) (w' : World), StepIs w' S x ⟨sl, si, sk⟩ (.returned (.tuple #[ZVAL, .int .i64 0, .int .i64 30])) w' := fun hs w' => by unfold StepIs; rw [hs]
  cases sl with
  | true =>
    by_cases hk : x.kind = 4
    · have hkX : ((x.kind.toNat : Int) != 4) = false := by rw [hk]; rfl
      have HK := hid hk
      clear hk
      by_cases h0 : si < 0
      · have hkk : (decide (si < 0)) = true := by simpa using h0
        have HS := hid (hnone (by rw [stepV_l rfl]; exact if_neg fun h => by have := h.2.1; simp only at this; omega))
        clear hnone
        go_enter Try.func27, Try.ntmps27
        go_wp2
        rw [← e3]
        clear e3
        refine bodyPost_ret (v := .tuple #[ZVAL, .int .i64 0, .int .i64 30]) (by simp [results, Try.results27, go_sem, r0, r1, r2, r3, r4]) rfl ⟨?_, HE.out⟩
        exact HS.out _
      · by_cases h1 : (x.l.length : Int) ≤ si
        · have hkk : (decide ((x.l.length : Int) ≤ si)) = true := by simpa using h1
          have HS := hid (hnone (by rw [stepV_l rfl]; exact if_neg fun h => by have := h.2.2; simp only at this; omega))
          clear hnone
          go_enter Try.func27, Try.ntmps27
          go_wp2
          rw [← e3]
          clear e3
          refine bodyPost_ret (v := .tuple #[ZVAL, .int .i64 0, .int .i64 30]) (by simp [results, Try.results27, go_sem, r0, r1, r2, r3, r4]) rfl ⟨?_, HE.out⟩
          exact HS.out _
        · obtain ⟨j, rfl⟩ : ∃ j : Nat, si = j := ⟨si.toNat, by omega⟩
          have hj : j < x.l.length := by omega
          obtain ⟨g, o, cs, rfl, _, _, hrd, hcell⟩ := HL.out.at_ EVal.ok hj
          have HY := hid (show stepV x ⟨true, (j : Int), sk⟩ = some (.l j) ∧ x.child? (.l j) = some x.l[j] from by
            refine ⟨?_, by rw [child_l]; exact List.getElem?_eq_getElem hj⟩
            rw [stepV_l rfl, if_pos ⟨HK.out, by simp only; omega, by simp only; omega⟩]; rfl)
          generalize x.l[j] = y at *
          obtain ⟨A1, m1, d1, A2, m2, d2, rfl, _, _, hva⟩ := EVal_cells hrd
          have c0 := hcell 0 _ rfl
          have c1 := hcell 1 _ rfl
          have c2 := hcell 2 _ rfl
          have c3 := hcell 3 _ rfl
          have c4 := hcell 4 _ rfl
          have hz : EVal.size = 5 := rfl
          simp only [hz, Nat.add_zero] at c0 c1 c2 c3 c4
          have HG := hid (lt_of_cell c0)
          replace c0 := (HE.out.cell (lt_of_cell c0) id).trans c0
          replace c1 := (HE.out.cell (lt_of_cell c1) id).trans c1
          replace c2 := (HE.out.cell (lt_of_cell c2) id).trans c2
          replace c3 := (HE.out.cell (lt_of_cell c3) id).trans c3
          replace c4 := (HE.out.cell (lt_of_cell c4) id).trans c4
          have HVA := hid hva
          clear hz hcell hva hrd hnone
          go_enter Try.func27, Try.ntmps27
          go_wp2_with fail
          rw [← e3]
          clear e3
          refine G.wp_region_grow (G.specOf [(8, fun _ w' => Blk w' (w.heap.size + 2) TVAL #[U8 y.kind, .int .i64 y.n, .string y.s, .slice A1 y.l.length d1, .slice A2 y.o.length d2])])
            (fun w' => Keep (· = w.heap.size + 2) w3 w' ∧ Blk5 w' (w.heap.size + 2)) (FillAt 8 (w.heap.size + 2)) ?_ ?_ (by kernel_rfl) (by kernel_rfl) ⟨Keep.drew (Keep.refl _ _), _, rfl, HB3.out⟩ ?_
          · exact G.stable_cons (fun j hj v w w' h he => absurd he.1 hj) G.stable_nil
          · rintro i wa wb ⟨h1, cur, h2, h3⟩ ⟨_, a, b, c, d, e, rfl⟩
            exact ⟨h1.trans (set5_keep _ _ _ _ _ _ _ _) fun q _ e => e, _, rfl, set5_to h3 h2 _ _ _ _ _⟩
          iterate 8
            (try simp only [Act.put, List.setIfInBounds_toArray, List.set_cons_zero, List.set_cons_succ])
            refine G.grow_run rfl rfl rfl ?_
            apply Exists.intro
            refine ⟨fun w' hC hK => ?_, ?_⟩
            · have hne0 : ¬ w.heap.size = w.heap.size + 2 := (by omega)
              have hne1 : ¬ w.heap.size + 1 = w.heap.size + 2 := (by omega)
              have hneg : ¬ g = w.heap.size + 2 := (by have := HG.out; omega)
              have q3 := (hC.1.cell (lt_of_cell q3) hne0).trans q3
              have s1 := (hC.1.cell (lt_of_cell s1) hne1).trans s1
              have c0 := (hC.1.cell (lt_of_cell c0) hneg).trans c0
              have c1 := (hC.1.cell (lt_of_cell c1) hneg).trans c1
              have c2 := (hC.1.cell (lt_of_cell c2) hneg).trans c2
              have c3 := (hC.1.cell (lt_of_cell c3) hneg).trans c3
              have c4 := (hC.1.cell (lt_of_cell c4) hneg).trans c4
              go_simp
              rfl
          (try simp only [Act.put, List.setIfInBounds_toArray, List.set_cons_zero, List.set_cons_succ])
          refine G.grow_eff rfl rfl rfl (fun w' hC hK => ?_) (fun v8 hv8 => ?_)
          · obtain ⟨cur, hcur, hbl⟩ := hC.2
            have HF := hid (show Blk (fillW w' (w.heap.size + 2) (U8 y.kind) (.int .i64 y.n) (.string y.s) (.slice A1 y.l.length d1) (.slice A2 y.o.length d2)) (w.heap.size + 2) TVAL #[U8 y.kind, .int .i64 y.n, .string y.s, .slice A1 y.l.length d1, .slice A2 y.o.length d2] from set5_to hbl hcur _ _ _ _ _)
            obtain ⟨u0, z0⟩ := cell_some hbl (show 0 < cur.size from by omega)
            obtain ⟨u1, z1⟩ := cell_some hbl (show 1 < cur.size from by omega)
            obtain ⟨u2, z2⟩ := cell_some hbl (show 2 < cur.size from by omega)
            obtain ⟨u3, z3⟩ := cell_some hbl (show 3 < cur.size from by omega)
            obtain ⟨u4, z4⟩ := cell_some hbl (show 4 < cur.size from by omega)
            have g0 := hbl.frozen 0
            have g1 := hbl.frozen 1
            have g2 := hbl.frozen 2
            have g3 := hbl.frozen 3
            have g4 := hbl.frozen 4
            unfold G.growAt
            go_simp
            exact ⟨⟨rfl, _, _, _, _, _, rfl⟩, HF.out⟩
          iterate 2
            (try simp only [Act.put, List.setIfInBounds_toArray, List.set_cons_zero, List.set_cons_succ])
            refine G.grow_run rfl rfl rfl ?_
            apply Exists.intro
            refine ⟨fun w' hC hK => ?_, ?_⟩
            · go_simp
              rfl
          refine G.grow_nil fun w7 hC hK => ?_
          have HB7 := hid (show Blk w7 (w.heap.size + 2) TVAL #[U8 y.kind, .int .i64 y.n, .string y.s, .slice A1 y.l.length d1, .slice A2 y.o.length d2] from hK (8, _) List.mem_cons_self)
          have HE7 := hid (show Ext w w7 from HE.out.trans hC.1 fun q hq e => by omega)
          clear hC hK hv8 q0 q1 q2 q3 q4 r0 r1 r2 r3 r4 s0 s1 s2 f0 f1 f2 f3 f4 c0 c1 c2 c3 c4
          go_wp2
          obtain ⟨t0, t1, t2, t3, t4⟩ := blk5 HB7.out
          refine bodyPost_ret (v := .tuple #[.agg #[U8 y.kind, .int .i64 y.n, .string y.s, .slice A1 y.l.length d1, .slice A2 y.o.length d2], .int .i64 j, .int .i64 0]) (by simp [results, Try.results27, go_sem, t0, t1, t2, t3, t4]) rfl ⟨?_, HE7.out⟩
          unfold StepIs
          rw [HY.out.1]
          exact ⟨_, y, HY.out.2, rfl, HVA.out.ext HE7.out⟩
    · have hkX : ((x.kind.toNat : Int) != 4) = true := by
        have : x.kind.toNat ≠ 4 := fun e => hk (UInt8.toNat_inj.1 (by simpa using e))
        simp; omega
      have HK := hid hk
      clear hk
      have HS := hid (hnone (by rw [stepV_l rfl]; exact if_neg fun h => by exact HK.out h.1))
      clear hnone
      go_enter Try.func27, Try.ntmps27
      go_wp2
      rw [← e3]
      clear e3
      refine bodyPost_ret (v := .tuple #[ZVAL, .int .i64 0, .int .i64 30]) (by simp [results, Try.results27, go_sem, r0, r1, r2, r3, r4]) rfl ⟨?_, HE.out⟩
      exact HS.out _
  | false =>
    have HF := hid (rfield_val w3 S _ x sk (HV.out.ext HE.out))
    by_cases hk : x.kind = 5
    · have hkX : ((x.kind.toNat : Int) != 5) = false := by rw [hk]; rfl
      have HK := hid hk
      clear hk
      cases hf : fieldIs x.o sk with
      | true =>
        have hj := fieldIs_lt hf
        obtain ⟨g, o, cs, rfl, _, _, hrd, hcell⟩ := HO.out.at_ EField.ok hj
        have HY := hid (show stepV x ⟨false, si, sk⟩ = some (.o (fieldL x.o sk)) ∧ x.child? (.o (fieldL x.o sk)) = some x.o[fieldL x.o sk].v from by
          refine ⟨?_, by rw [child_o, List.getElem?_eq_getElem hj]; rfl⟩
          rw [stepV_o rfl, if_pos ⟨HK.out, hf⟩])
        rw [hf] at HF
        generalize hjj : fieldL x.o sk = j at *
        generalize x.o[j] = y at *
        obtain ⟨_, _, rfl, ⟨A1, d1, rfl⟩, ⟨A2, d2, rfl⟩, hva⟩ := EField_cells hrd
        have c0 := hcell 1 _ rfl
        have c1 := hcell 2 _ rfl
        have c2 := hcell 3 _ rfl
        have c3 := hcell 4 _ rfl
        have c4 := hcell 5 _ rfl
        have hz : EField.size = 6 := rfl
        simp only [hz, Nat.add_zero] at c0 c1 c2 c3 c4
        replace c0 := (HE.out.cell (lt_of_cell c0) id).trans c0
        replace c1 := (HE.out.cell (lt_of_cell c1) id).trans c1
        replace c2 := (HE.out.cell (lt_of_cell c2) id).trans c2
        replace c3 := (HE.out.cell (lt_of_cell c3) id).trans c3
        replace c4 := (HE.out.cell (lt_of_cell c4) id).trans c4
        have HVA := hid hva
        clear hz hcell hva hrd hnone hf hjj
        go_enter Try.func27, Try.ntmps27
        go_wp2_with fail
        rw [← e3]
        clear e3
        refine HF.out.mono ?_
        rintro e w4 ⟨rfl, hE4⟩
        replace q0 := (hE4.cell (lt_of_cell q0) id).trans q0
        replace q1 := (hE4.cell (lt_of_cell q1) id).trans q1
        replace q2 := (hE4.cell (lt_of_cell q2) id).trans q2
        replace q3 := (hE4.cell (lt_of_cell q3) id).trans q3
        replace q4 := (hE4.cell (lt_of_cell q4) id).trans q4
        replace c0 := (hE4.cell (lt_of_cell c0) id).trans c0
        replace c1 := (hE4.cell (lt_of_cell c1) id).trans c1
        replace c2 := (hE4.cell (lt_of_cell c2) id).trans c2
        replace c3 := (hE4.cell (lt_of_cell c3) id).trans c3
        replace c4 := (hE4.cell (lt_of_cell c4) id).trans c4
        have HB4 := hid (HB3.out.keep hE4 id)
        have HE4 := hid (HE.out.ext hE4)
        obtain ⟨r0, r1, r2, r3, r4⟩ := blk5 HB4.out
        have f0 := HB4.out.frozen 0
        have f1 := HB4.out.frozen 1
        have f2 := HB4.out.frozen 2
        have f3 := HB4.out.frozen 3
        have f4 := HB4.out.frozen 4
        clear hE4
        have HT := hid (ret5 HE4.out HX.out HB4.out (U8 y.v.kind) (.int .i64 y.v.n) (.string y.v.s) (.slice A1 y.v.l.length d1) (.slice A2 y.v.o.length d2))
        go_wp2
        obtain ⟨hE5, t0, t1, t2, t3, t4⟩ := HT.out
        change bodyPost _ _ _ _ _ (fillW w4 (w.heap.size + 2) (U8 y.v.kind) (.int .i64 y.v.n) (.string y.v.s) (.slice A1 y.v.l.length d1) (.slice A2 y.v.o.length d2))
        generalize fillW w4 (w.heap.size + 2) (U8 y.v.kind) (.int .i64 y.v.n) (.string y.v.s) (.slice A1 y.v.l.length d1) (.slice A2 y.v.o.length d2) = w7 at *
        refine bodyPost_ret (v := .tuple #[.agg #[U8 y.v.kind, .int .i64 y.v.n, .string y.v.s, .slice A1 y.v.l.length d1, .slice A2 y.v.o.length d2], .int .i64 j, .int .i64 0]) (by simp [results, Try.results27, go_sem, t0, t1, t2, t3, t4]) rfl ⟨?_, hE5⟩
        unfold StepIs
        rw [HY.out.1]
        exact ⟨_, y.v, HY.out.2, rfl, HVA.out.ext hE5⟩
      | false =>
        have HS := hid (hnone (by rw [stepV_o rfl]; exact if_neg fun h => by have := h.2; simp only at this; rw [hf] at this; cases this))
        rw [hf] at HF
        clear hnone hf
        go_enter Try.func27, Try.ntmps27
        go_wp2_with fail
        rw [← e3]
        clear e3
        refine HF.out.mono ?_
        rintro e w4 ⟨rfl, hE4⟩
        replace q0 := (hE4.cell (lt_of_cell q0) id).trans q0
        replace q1 := (hE4.cell (lt_of_cell q1) id).trans q1
        replace q2 := (hE4.cell (lt_of_cell q2) id).trans q2
        replace q3 := (hE4.cell (lt_of_cell q3) id).trans q3
        replace q4 := (hE4.cell (lt_of_cell q4) id).trans q4
        replace r0 := (hE4.cell (lt_of_cell r0) id).trans r0
        replace r1 := (hE4.cell (lt_of_cell r1) id).trans r1
        replace r2 := (hE4.cell (lt_of_cell r2) id).trans r2
        replace r3 := (hE4.cell (lt_of_cell r3) id).trans r3
        replace r4 := (hE4.cell (lt_of_cell r4) id).trans r4
        have HB4 := hid (HB3.out.keep hE4 id)
        have HE4 := hid (HE.out.ext hE4)
        have f0 := HB4.out.frozen 0
        have f1 := HB4.out.frozen 1
        have f2 := HB4.out.frozen 2
        have f3 := HB4.out.frozen 3
        have f4 := HB4.out.frozen 4
        clear hE4
        have HT := hid (ret5 HE4.out HX.out HB4.out (.int .u8 0) (.int .i64 0) (.string ⟨#[]⟩) (.slice none 0 0) (.slice none 0 0))
        go_wp2
        obtain ⟨hE5, t0, t1, t2, t3, t4⟩ := HT.out
        change bodyPost _ _ _ _ _ (fillW w4 (w.heap.size + 2) (.int .u8 0) (.int .i64 0) (.string ⟨#[]⟩) (.slice none 0 0) (.slice none 0 0))
        generalize fillW w4 (w.heap.size + 2) (.int .u8 0) (.int .i64 0) (.string ⟨#[]⟩) (.slice none 0 0) (.slice none 0 0) = w7 at *
        refine bodyPost_ret (v := .tuple #[ZVAL, .int .i64 0, .int .i64 30]) (by simp [results, Try.results27, go_sem, t0, t1, t2, t3, t4]) rfl ⟨?_, hE5⟩
        exact HS.out _
    · have hkX : ((x.kind.toNat : Int) != 5) = true := by
        have : x.kind.toNat ≠ 5 := fun e => hk (UInt8.toNat_inj.1 (by simpa using e))
        simp; omega
      have HS := hid (hnone (by rw [stepV_o rfl]; exact if_neg fun h => hk h.1))
      clear hnone hk
      generalize fieldIs x.o sk = fb at *
      go_enter Try.func27, Try.ntmps27
      go_wp2_with fail
      rw [← e3]
      clear e3
      refine HF.out.mono ?_
      rintro e w4 ⟨rfl, hE4⟩
      replace q0 := (hE4.cell (lt_of_cell q0) id).trans q0
      replace q1 := (hE4.cell (lt_of_cell q1) id).trans q1
      replace q2 := (hE4.cell (lt_of_cell q2) id).trans q2
      replace q3 := (hE4.cell (lt_of_cell q3) id).trans q3
      replace q4 := (hE4.cell (lt_of_cell q4) id).trans q4
      replace r0 := (hE4.cell (lt_of_cell r0) id).trans r0
      replace r1 := (hE4.cell (lt_of_cell r1) id).trans r1
      replace r2 := (hE4.cell (lt_of_cell r2) id).trans r2
      replace r3 := (hE4.cell (lt_of_cell r3) id).trans r3
      replace r4 := (hE4.cell (lt_of_cell r4) id).trans r4
      have HB4 := hid (HB3.out.keep hE4 id)
      have HE4 := hid (HE.out.ext hE4)
      have f0 := HB4.out.frozen 0
      have f1 := HB4.out.frozen 1
      have f2 := HB4.out.frozen 2
      have f3 := HB4.out.frozen 3
      have f4 := HB4.out.frozen 4
      clear hE4
      have HT := hid (ret5 HE4.out HX.out HB4.out (.int .u8 0) (.int .i64 0) (.string ⟨#[]⟩) (.slice none 0 0) (.slice none 0 0))
      go_wp2
      obtain ⟨hE5, t0, t1, t2, t3, t4⟩ := HT.out
      change bodyPost _ _ _ _ _ (fillW w4 (w.heap.size + 2) (.int .u8 0) (.int .i64 0) (.string ⟨#[]⟩) (.slice none 0 0) (.slice none 0 0))
      generalize fillW w4 (w.heap.size + 2) (.int .u8 0) (.int .i64 0) (.string ⟨#[]⟩) (.slice none 0 0) (.slice none 0 0) = w7 at *
      refine bodyPost_ret (v := .tuple #[ZVAL, .int .i64 0, .int .i64 30]) (by simp [results, Try.results27, go_sem, t0, t1, t2, t3, t4]) rfl ⟨?_, hE5⟩
      exact HS.out _
end Go.Proofs.Ytioplgfopillnaa

/- The reference's Get, by contract. -/
namespace Go.Proofs.Ytioplgfopillnaa
open Go.RowKit
set_option linter.unusedVariables false
/-- What a step leaves, its data in blocks of S. -/
def StepO (S : BS) (z : V) (idx : Nat) (err : Int) (_ _ : Nat) (v : Value) (w : World) : Prop := ∃ A c A' c', v = .tuple #[.agg #[U8 z.kind, .int .i64 z.n, .string z.s, .slice A z.l.length c, .slice A' z.o.length c'], .int .i64 idx, .int .i64 err] ∧ VAt w S (.agg #[U8 z.kind, .int .i64 z.n, .string z.s, .slice A z.l.length c, .slice A' z.o.length c']) z
theorem StepO.ext {S : BS} {z : V} {idx : Nat} {err : Int} {n m : Nat} {v : Value} {w w' : World} (h : StepO S z idx err n m v w) (he : Ext w w') : StepO S z idx err n m v w' := by
  obtain ⟨A, c, A', c', e, h⟩ := h
  exact ⟨A, c, A', c', e, h.ext he⟩
/-- Either there is no step, or what it leads to. -/
def StepTo (y : V) (s : St) (z : V) (idx : Nat) (err : Int) : Prop := (stepV y s = none ∧ err = 30) ∨ ∃ loc, stepV y s = some loc ∧ idx = loc.idx ∧ y.child? loc = some z ∧ err = 0
theorem step_o (y : V) (s : St) : ∃ (z : V) (idx : Nat) (err : Int), (∀ (w : World) (S : BS) (u : Value), VAt w S u y → Calls Try.prog 27 #[u, stV s] w fun e w' => ∃ v, e = .returned v ∧ Ext w w' ∧ StepO S z idx err w.heap.size w'.heap.size v w') ∧ StepTo y s z idx err := by
  cases hs : stepV y s with
  | none =>
    refine ⟨.mk 0 0 ⟨#[]⟩ [] [], 0, 30, fun w S u h => (step_ok w S u y s h).mono ?_, .inl ⟨hs, rfl⟩⟩
    rintro e w' ⟨h1, hE⟩
    unfold StepIs at h1
    rw [hs] at h1
    exact ⟨_, h1, hE, none, 0, none, 0, rfl, _, _, rfl, Sl.nil _ _, Sl.nil _ _⟩
  | some loc =>
    obtain ⟨z, hz⟩ := stepV_child hs
    refine ⟨z, loc.idx, 0, fun w S u h => (step_ok w S u y s h).mono ?_, .inr ⟨loc, hs, rfl, hz, rfl⟩⟩
    rintro e w' ⟨h1, hE⟩
    unfold StepIs at h1
    rw [hs] at h1
    obtain ⟨u', z', hz', rfl, hva⟩ := h1
    rw [hz] at hz'
    obtain rfl := Option.some.inj hz'
    obtain ⟨A, c, A', c', rfl, hva⟩ := hva.form
    exact ⟨_, rfl, hE, A, c, A', c', rfl, hva⟩
/-- The box filled with what a step left. -/
theorem StepO.fill {S : BS} {z : V} {idx : Nat} {err : Int} {w0 w : World} {n m g k i' : Nat} {e' : Int} {a0 a1 a2 a3 a4 : Value} (hS : ∀ q, S q → q < w0.heap.size) (hE : Ext w0 w) (hb : BoxQ w0.heap.size g k (.pointer (some ⟨g, 0, none⟩)) w) (hv : StepO S z idx err n m (.tuple #[.agg #[a0, a1, a2, a3, a4], .int .i64 i', .int .i64 e']) w) :
    Ext w0 (fillW w g a0 a1 a2 a3 a4) ∧ Blk (fillW w g a0 a1 a2 a3 a4) g TVAL #[a0, a1, a2, a3, a4] ∧ VAt (fillW w g a0 a1 a2 a3 a4) S (.agg #[a0, a1, a2, a3, a4]) z := by
  obtain ⟨A, c, A', c', h4, h5⟩ := hv
  simp only [Value.tuple.injEq, Array.mk.injEq, List.cons.injEq, Value.agg.injEq, and_true] at h4
  obtain ⟨⟨rfl, rfl, rfl, rfl, rfl⟩, _⟩ := h4
  have hk : Keep (· = g) w (fillW w g (U8 z.kind) (.int .i64 z.n) (.string z.s) (.slice A z.l.length c) (.slice A' z.o.length c')) := set5_keep w g 0 _ _ _ _ _
  exact ⟨hE.trans hk fun q hq e => by have := hb.1; omega, set5_to hb.2.2.2 rfl _ _ _ _ _, h5.keep hk fun q hq e => by have := hS q hq; have := hb.1; omega⟩

/-- What the reference's Get hands back. -/
def RGetIs (v : V) (p : List St) (w : World) (e : Ending) (w' : World) : Prop := (match getV v p with
  | none => e = .returned (.tuple #[ZVAL, .int .i64 30])
  | some y => ∃ u, e = .returned (.tuple #[u, .int .i64 0]) ∧ VAt w' (fun _ => True) u y) ∧ Ext w w'
theorem getV_take {v y : V} {p : List St} {j : Nat} (hj : j < p.length) (h : getV v (p.take j) = some y) : getV v p = getV y (p.drop j) ∧ p.drop j = p[j] :: p.drop (j + 1) ∧ getV v (p.take (j + 1)) = getV y [p[j]] := by
  have h1 := getV_append (p.take j) (p.drop j) v
  rw [List.take_append_drop, h, Option.bind_some] at h1
  have h2 := getV_append (p.take j) [p[j]] v
  rw [h, Option.bind_some, ← List.take_succ_eq_append_getElem hj] at h2
  exact ⟨h1, List.drop_eq_getElem_cons hj, h2⟩
theorem StepTo.none {y v z : V} {p : List St} {j idx : Nat} {err : Int} (hj : j < p.length) (h : getV v (p.take j) = some y) (hs : StepTo y p[j] z idx err) (he : err ≠ 0) : getV v p = .none ∧ err = 30 := by
  obtain ⟨h1, h2, _⟩ := getV_take hj h
  rcases hs with ⟨h3, h4⟩ | ⟨_, _, _, _, h4⟩
  · rw [h1, h2, getV, h3]; exact ⟨rfl, h4⟩
  · exact absurd h4 he
theorem StepTo.some {y v z : V} {p : List St} {j idx : Nat} {err : Int} (hj : j < p.length) (h : getV v (p.take j) = some y) (hs : StepTo y p[j] z idx err) (he : err = 0) : getV v (p.take (j + 1)) = some z := by
  obtain ⟨_, _, h1⟩ := getV_take hj h
  rcases hs with ⟨_, h4⟩ | ⟨loc, h2, _, h3, _⟩
  · rw [h4] at he; cases he
  · rw [h1]; simp only [getV, h2, h3]

set_option maxHeartbeats 3200000 in
theorem rget_ok (w : World) (u pv : Value) (v : V) (p : List St) (S S' : BS) (hu : VAt w S u v) (hp : Sl ESt w S' pv p) (hsz : v.size ≤ 1000000) :
    Calls Try.prog 14 #[u, pv] w (RGetIs v p w) := by
  obtain ⟨lv, ov, rfl, hl, ho⟩ := hu.cut
  obtain ⟨A, c, rfl, _, _⟩ := hl.shape
  obtain ⟨A', c', rfl, _, _⟩ := ho.shape
  obtain ⟨Ap, cp, rfl, hpl, hpm⟩ := hp.shape
  unfold maxLen at hpm
  obtain ⟨w1, hw1⟩ : ∃ w1, w1 = w.alloc (.cells #[U8 v.kind, .int .i64 v.n, .string v.s, .slice A v.l.length c, .slice A' v.o.length c'] TVAL) := ⟨_, rfl⟩
  obtain ⟨w3, hw3⟩ : ∃ w3, w3 = w1.alloc (.cells #[.int .u8 0, .int .i64 0, .string ⟨#[]⟩, .slice none 0 0, .slice none 0 0] TVAL) := ⟨_, rfl⟩
  have hz1 : w1.heap.size = w.heap.size + 1 := by rw [hw1]; simp
  have hE1 : Ext w w1 := by rw [hw1]; exact (Keep.refl _ _).alloc _
  have hE3 : Ext w1 w3 := by rw [hw3]; exact (Keep.refl _ _).alloc _
  have hb1 : Blk w3 w.heap.size TVAL #[U8 v.kind, .int .i64 v.n, .string v.s, .slice A v.l.length c, .slice A' v.o.length c'] := by
    have := Blk.new w TVAL #[U8 v.kind, .int .i64 v.n, .string v.s, .slice A v.l.length c, .slice A' v.o.length c']
    rw [← hw1] at this
    exact this.keep hE3 id
  have hb3 : Blk w3 (w.heap.size + 1) TVAL #[.int .u8 0, .int .i64 0, .string ⟨#[]⟩, .slice none 0 0, .slice none 0 0] := by
    have := Blk.new w1 TVAL #[.int .u8 0, .int .i64 0, .string ⟨#[]⟩, .slice none 0 0, .slice none 0 0]
    rwa [← hw3, hz1] at this
  have hE : Ext w w3 := hE1.ext hE3
  have HE := hid hE
  have HB1 := hid hb1
  have HB3 := hid hb3
  have HV := hid (show VAt w3 (fun q => q < w.heap.size) (.agg #[U8 v.kind, .int .i64 v.n, .string v.s, .slice A v.l.length c, .slice A' v.o.length c']) v from (VAt.ext ⟨_, _, rfl, hl, ho⟩ hE).more fun q _ h => h.2)
  have HP := hid ((hp.more ESt.ok (S' := fun q => q < w.heap.size) (fun q h _ => h)).ext ESt.ok hE)
  have HSZ := hid hsz
  have e3 : w3 = (w.alloc (.cells #[U8 v.kind, .int .i64 v.n, .string v.s, .slice A v.l.length c, .slice A' v.o.length c'] TVAL)).alloc (.cells #[.int .u8 0, .int .i64 0, .string ⟨#[]⟩, .slice none 0 0, .slice none 0 0] TVAL) := by rw [hw3, hw1]
  have hz3 : w.heap.size + 1 < w3.heap.size := hb3.lt
  clear hw1 hw3 hE1 hE3 hb1 hb3 hz1 hE hl ho hp hsz hu w1
  go_enter Try.func14, Try.ntmps14
  go_wp2_with fail
  rw [← e3]
  clear e3
  go_loopw [6, 7, 8, 9] (fun i _ _ _ wr => ∃ (j : Nat) (y : V) (lv ov : Value), i = .int .i64 j ∧ j ≤ p.length ∧ getV v (p.take j) = some y ∧ Blk wr w.heap.size TVAL #[U8 y.kind, .int .i64 y.n, .string y.s, lv, ov] ∧
    VAt wr (fun q => q < w.heap.size) (.agg #[U8 y.kind, .int .i64 y.n, .string y.s, lv, ov]) y ∧ Keep (· = w.heap.size) w3 wr) (fun i _ _ _ _ => p.length - (intOf i).toNat)
  case atStart => exact ⟨0, v, _, _, rfl, by omega, rfl, HB1.out, HV.out, Keep.refl _ _⟩
  case round =>
    obtain ⟨j, y, lv, ov, rfl, hj, hg, hb, hva, hkr⟩ := hrel
    obtain ⟨lv', ov', e, hxl, hxo⟩ := hva
    obtain ⟨e1, e2⟩ : lv = lv' ∧ ov = ov' := by simp at e; exact e
    subst e1 e2
    clear e
    obtain ⟨A2, c2, rfl, h2l, h2m⟩ := hxl.shape
    obtain ⟨A3, c3, rfl, h3l, h3m⟩ := hxo.shape
    have HY := hid (show VAt wr (fun q => q < w.heap.size) (.agg #[U8 y.kind, .int .i64 y.n, .string y.s, .slice A2 y.l.length c2, .slice A3 y.o.length c3]) y from ⟨_, _, rfl, hxl, hxo⟩)
    have HG := hid hg
    have HK := hid hkr
    have HBY := hid hb
    have hkz := hkr.size
    have HBR := hid (HB3.out.keep hkr (by omega))
    have HPr := hid (HP.out.keep ESt.ok hkr fun q hq e => by omega)
    obtain ⟨q0, q1, q2, q3, q4⟩ := blk5 hb
    clear hxl hxo hg hkr hb
    by_cases hlt : j < p.length
    · have hltX : (j : Int) < p.length := by omega
      obtain ⟨bp, op, cs, rfl, _, _, hrd, hcell⟩ := HPr.out.at_ ESt.ok hlt
      obtain ⟨z, idx, err, hcall, hst⟩ := step_o y p[j]
      have HN := hid (fun h => hst.none hlt HG.out h)
      have HSO := hid (fun h => hst.some hlt HG.out h)
      have HCALL := hid hcall
      generalize p[j] = s at *
      obtain rfl : cs = [.bool s.list, .int .i64 s.i, .string s.key] := hrd
      have s0 := hcell 0 _ rfl
      have s1 := hcell 1 _ rfl
      have s2 := hcell 2 _ rfl
      have hz : ESt.size = 3 := rfl
      simp only [hz, Nat.add_zero] at s0 s1 s2
      clear hz hcell hcall hst
      go_wp2_with fail
      refine H.wp_region_frees [8, 9] [1, 2, 3] [0, 4, 5, 6, 7, 8, 9, 10] [11] [12, 13]
        (H.specOf [(5, StepO (fun q => q < w.heap.size) z idx err), (10, BoxQ wr.heap.size)])
        (fun w' => Ext wr w') ?_ (H.stableC_ext _) (by kernel_rfl) (by intro k hk; simp at hk; rcases hk with rfl | rfl <;> rfl) (by kernel_rfl) (Keep.drew (Keep.refl _ _)) ?_
      · exact H.stable_cons (fun n m v w w' h he => h.ext he) (H.stable_cons (fun n m v w w' h he => h.ext he) H.stable_nil)
      iterate 3
        (try simp only [Act.put, List.setIfInBounds_toArray, List.set_cons_zero, List.set_cons_succ])
        refine H.pure_run rfl rfl ?_
        apply Exists.intro
        refine ⟨fun w' => ?_, ?_⟩
        · go_simp
          rfl
      refine H.pure_nil ?_
      iterate 2
        (try simp only [Act.put, List.setIfInBounds_toArray, List.set_cons_zero, List.set_cons_succ])
        refine H.growP_run rfl rfl rfl ?_
        apply Exists.intro
        refine ⟨fun w' hC hK => ?_, ?_⟩
        · have q0 := (hC.cell (lt_of_cell q0) id).trans q0
          have q1 := (hC.cell (lt_of_cell q1) id).trans q1
          have q2 := (hC.cell (lt_of_cell q2) id).trans q2
          have q3 := (hC.cell (lt_of_cell q3) id).trans q3
          have q4 := (hC.cell (lt_of_cell q4) id).trans q4
          have s0 := (hC.cell (lt_of_cell s0) id).trans s0
          have s1 := (hC.cell (lt_of_cell s1) id).trans s1
          have s2 := (hC.cell (lt_of_cell s2) id).trans s2
          go_simp
          rfl
      (try simp only [Act.put, List.setIfInBounds_toArray, List.set_cons_zero, List.set_cons_succ])
      refine H.growP_eff rfl rfl rfl (fun w' hC hK => ?_) (fun v5 nv5 mv5 hv5 => ?_)
      · have hcall := HCALL.out w' _ _ (HY.out.ext hC)
        unfold H.growAt
        go_simp
        exact H.grow_call hcall
      obtain ⟨_, _, Az1, cz1, Az2, cz2, rfl, _⟩ := hv5.head
      iterate 4
        (try simp only [Act.put, List.setIfInBounds_toArray, List.set_cons_zero, List.set_cons_succ])
        refine H.growP_run rfl rfl rfl ?_
        apply Exists.intro
        refine ⟨fun w' hC hK => ?_, ?_⟩
        · go_simp
          rfl
      (try simp only [Act.put, List.setIfInBounds_toArray, List.set_cons_zero, List.set_cons_succ])
      refine H.growP_eff rfl rfl rfl (fun w' hC hK => ?_) (fun v10 nv10 mv10 hv10 => ?_)
      · unfold H.growAt
        go_simp
        exact ⟨(Keep.refl _ _).alloc _, hC.size, rfl, by simp, Blk.new _ _ _⟩
      obtain ⟨_, _, hn, rfl, hnm, _⟩ := hv10.head
      refine H.growP_nil fun w7 hC hK => ?_
      have hbox : BoxQ wr.heap.size nv10 mv10 (.pointer (some ⟨nv10, 0, none⟩)) w7 := (hK.1 (10, _) List.mem_cons_self).1
      have hout : StepO (fun q => q < w.heap.size) z idx err nv5 mv5 (.tuple #[.agg #[U8 z.kind, .int .i64 z.n, .string z.s, .slice Az1 z.l.length cz1, .slice Az2 z.o.length cz2], .int .i64 idx, .int .i64 err]) w7 := (hK.1 (5, _) (List.mem_cons_of_mem _ List.mem_cons_self)).1
      obtain ⟨bq0, bq1, bq2, bq3, bq4⟩ := blk5 hbox.2.2.2
      have bf0 := hbox.2.2.2.frozen 0
      have bf1 := hbox.2.2.2.frozen 1
      have bf2 := hbox.2.2.2.frozen 2
      have bf3 := hbox.2.2.2.frozen 3
      have bf4 := hbox.2.2.2.frozen 4
      have HF := hid (StepO.fill (fun q (hq : q < w.heap.size) => by omega) hC hbox hout)
      clear hbox hout hK hn hnm q0 q1 q2 q3 q4 s0 s1 s2 hv5 hv10 hC
      change wpList _ _ _ (_ :: []) _ _
      (try simp only [Act.put, List.setIfInBounds_toArray, List.set_cons_zero, List.set_cons_succ])
      go_wp2_with fail
      refine H.Then.normal ?_
      iterate 2
        (try simp only [Act.put, List.setIfInBounds_toArray, List.set_cons_zero, List.set_cons_succ])
        refine H.pure_run rfl rfl ?_
        apply Exists.intro
        refine ⟨fun w' => ?_, ?_⟩
        · go_simp
          rfl
      refine H.pure_nil ?_
      refine NoPanic.normal ?_
      (try simp only [Act.put, List.setIfInBounds_toArray, List.set_cons_zero, List.set_cons_succ])
      obtain ⟨hE8, hB8, hV8⟩ := HF.out
      clear HF bq0 bq1 bq2 bq3 bq4 bf0 bf1 bf2 bf3 bf4
      change Exit.then _ _ Exit.normal _ (fillW w7 nv10 (U8 z.kind) (.int .i64 z.n) (.string z.s) (.slice Az1 z.l.length cz1) (.slice Az2 z.o.length cz2))
      generalize fillW w7 nv10 (U8 z.kind) (.int .i64 z.n) (.string z.s) (.slice Az1 z.l.length cz1) (.slice Az2 z.o.length cz2) = w8 at *
      have HE8 := hid (HK.out.trans hE8 fun q _ h => h.elim)
      have HB8 := hid hB8
      have HV8 := hid hV8
      have hby := HBY.out.keep hE8 id
      have hbr := HBR.out.keep hE8 id
      clear hE8 hB8 hV8
      by_cases herr : err = 0
      · have HD := hid (HSO.out herr)
        have herrX : (err != 0) = false := by simp [herr]
        clear herr
        obtain ⟨q0, q1, q2, q3, q4⟩ := blk5 hby
        have f0 := hby.frozen 0
        have f1 := hby.frozen 1
        have f2 := hby.frozen 2
        have f3 := hby.frozen 3
        have f4 := hby.frozen 4
        obtain ⟨z0, z1, z2, z3, z4⟩ := blk5 HB8.out
        have hk := set5_keep w8 w.heap.size 0 (U8 z.kind) (.int .i64 z.n) (.string z.s) (.slice Az1 z.l.length cz1) (.slice Az2 z.o.length cz2)
        have HR := hid (And.intro (show Blk (fillW w8 w.heap.size (U8 z.kind) (.int .i64 z.n) (.string z.s) (.slice Az1 z.l.length cz1) (.slice Az2 z.o.length cz2)) w.heap.size TVAL #[U8 z.kind, .int .i64 z.n, .string z.s, .slice Az1 z.l.length cz1, .slice Az2 z.o.length cz2] from set5_to hby rfl _ _ _ _ _)
          (And.intro (show VAt (fillW w8 w.heap.size (U8 z.kind) (.int .i64 z.n) (.string z.s) (.slice Az1 z.l.length cz1) (.slice Az2 z.o.length cz2)) (fun q => q < w.heap.size) (.agg #[U8 z.kind, .int .i64 z.n, .string z.s, .slice Az1 z.l.length cz1, .slice Az2 z.o.length cz2]) z from HV8.out.keep hk fun q hq e => by omega)
            (show Keep (· = w.heap.size) w3 (fillW w8 w.heap.size (U8 z.kind) (.int .i64 z.n) (.string z.s) (.slice Az1 z.l.length cz1) (.slice Az2 z.o.length cz2)) from HE8.out.trans hk fun q _ h => h)))
        clear hby hbr hk
        go_wp2
        go_roundw
        case rel => exact ⟨j + 1, z, _, _, by go_num, by omega, HD.out, HR.out⟩
        case measure => simp [intOf]; omega
      · have HD := hid (HN.out herr)
        have herrX : (err != 0) = true := by simpa using herr
        clear herr
        obtain ⟨r0, r1, r2, r3, r4⟩ := blk5 hbr
        have f0 := hbr.frozen 0
        have f1 := hbr.frozen 1
        have f2 := hbr.frozen 2
        have f3 := hbr.frozen 3
        have f4 := hbr.frozen 4
        have HT := hid (ret5 (HE.out.trans HE8.out fun q hq e => by omega) (by omega) hbr (.int .u8 0) (.int .i64 0) (.string ⟨#[]⟩) (.slice none 0 0) (.slice none 0 0))
        clear hby hbr
        go_wp2
        obtain ⟨hE5, t0, t1, t2, t3, t4⟩ := HT.out
        change bodyPost _ _ _ _ _ (fillW w8 (w.heap.size + 1) (.int .u8 0) (.int .i64 0) (.string ⟨#[]⟩) (.slice none 0 0) (.slice none 0 0))
        generalize fillW w8 (w.heap.size + 1) (.int .u8 0) (.int .i64 0) (.string ⟨#[]⟩) (.slice none 0 0) (.slice none 0 0) = w9 at *
        refine bodyPost_ret (v := .tuple #[ZVAL, .int .i64 err]) (by simp [results, Try.results14, go_sem, t0, t1, t2, t3, t4]) rfl ?_
        obtain ⟨hd1, hd2⟩ := HD.out
        unfold RGetIs
        rw [hd1, hd2]
        exact ⟨rfl, hE5⟩
    · obtain rfl : j = p.length := by omega
      have HGF := hid (show getV v p = some y from by have := HG.out; rwa [List.take_length] at this)
      have hys : y.size ≤ 1000000 := Nat.le_trans (getV_size _ _ _ HGF.out) HSZ.out
      have HCP := hid (rcopy_any _ y (Nat.le_refl _) hys _ _ wr HY.out)
      have HEr := hid (HE.out.trans HK.out fun q hq e => by omega)
      clear HG
      go_wp2_with fail
      refine HCP.out.mono ?_
      rintro e w4 h
      obtain ⟨u, rfl, hva, hE4⟩ := h.at_
      obtain ⟨B1, e1, B2, e2, rfl, hva⟩ := hva.form
      have hbr := HBR.out.keep hE4 id
      obtain ⟨r0, r1, r2, r3, r4⟩ := blk5 hbr
      have f0 := hbr.frozen 0
      have f1 := hbr.frozen 1
      have f2 := hbr.frozen 2
      have f3 := hbr.frozen 3
      have f4 := hbr.frozen 4
      have hk := set5_keep w4 (w.heap.size + 1) 0 (U8 y.kind) (.int .i64 y.n) (.string y.s) (.slice B1 y.l.length e1) (.slice B2 y.o.length e2)
      have HT := hid (ret5 (HEr.out.ext hE4) (by omega) hbr (U8 y.kind) (.int .i64 y.n) (.string y.s) (.slice B1 y.l.length e1) (.slice B2 y.o.length e2))
      have HVF := hid (show VAt (fillW w4 (w.heap.size + 1) (U8 y.kind) (.int .i64 y.n) (.string y.s) (.slice B1 y.l.length e1) (.slice B2 y.o.length e2)) (fun _ => True) (.agg #[U8 y.kind, .int .i64 y.n, .string y.s, .slice B1 y.l.length e1, .slice B2 y.o.length e2]) y from (hva.keep hk fun q hq e => by omega).more fun _ _ _ => trivial)
      clear hva hE4 hbr hk h q0 q1 q2 q3 q4
      go_wp2
      obtain ⟨hE5, t0, t1, t2, t3, t4⟩ := HT.out
      change bodyPost _ _ _ _ _ (fillW w4 (w.heap.size + 1) (U8 y.kind) (.int .i64 y.n) (.string y.s) (.slice B1 y.l.length e1) (.slice B2 y.o.length e2))
      generalize fillW w4 (w.heap.size + 1) (U8 y.kind) (.int .i64 y.n) (.string y.s) (.slice B1 y.l.length e1) (.slice B2 y.o.length e2) = w9 at *
      refine bodyPost_ret (v := .tuple #[.agg #[U8 y.kind, .int .i64 y.n, .string y.s, .slice B1 y.l.length e1, .slice B2 y.o.length e2], .int .i64 0]) (by simp [results, Try.results14, go_sem, t0, t1, t2, t3, t4]) rfl ?_
      unfold RGetIs
      rw [HGF.out]
      exact ⟨⟨_, rfl, HVF.out⟩, hE5⟩
end Go.Proofs.Ytioplgfopillnaa
