/- Sound and Begins of any paths are what the chapter says: the walk. -/
import Derived.Test.YtjdpljjbgggpiaaDoorPathSounds
import Derived.SizedLaws
set_option linter.unusedSimpArgs false
set_option linter.unusedVariables false
namespace Go.Proofs.YtjdpljjbgggpiaaDoor
open Go.RowKit
set_option linter.unusedVariables false

theorem BegIs.yes {p q : List St} {w w' : World} {e : Ending} (h : BegIs p q w e w') (hb : q <+: p) : e = .returned (.bool true) ∧ Ext w w' := by
  obtain ⟨⟨h1, _⟩ | ⟨_, h1⟩, h2⟩ := h
  · exact ⟨h1, h2⟩
  · exact absurd hb h1
theorem BegIs.no {p q : List St} {w w' : World} {e : Ending} (h : BegIs p q w e w') (hb : ¬ q <+: p) : e = .returned (.bool false) ∧ Ext w w' := by
  obtain ⟨⟨_, h1⟩ | ⟨h1, _⟩, h2⟩ := h
  · exact absurd h1 hb
  · exact ⟨h1, h2⟩
/-- As a truth. -/
theorem BegIs.is {p q : List St} {w w' : World} {e : Ending} (h : BegIs p q w e w') (b : Bool) (hb : b = true ↔ q <+: p) : e = .returned (.bool b) ∧ Ext w w' := by
  cases b with
  | true => exact h.yes (hb.1 rfl)
  | false => exact h.no fun hc => by simpa using hb.2 hc

set_option maxHeartbeats 1600000 in
theorem rbegins_ok (w : World) (S S2 : BS) (v u : Value) (p q : List St) (h : Sl ESt w S v p) (h2 : Sl ESt w S2 u q) :
    Calls Tryd.prog 25 #[v, u] w (BegIs p q w) := by
  obtain ⟨A, c, rfl, hlc, hcm⟩ := h.shape
  obtain ⟨A2, c2, rfl, hlc2, hcm2⟩ := h2.shape
  unfold maxLen at hcm hcm2
  have HA := hid h
  have HB := hid h2
  clear h h2
  by_cases hlen : p.length < q.length
  · have hlenX : (p.length : Int) < q.length := by omega
    have HNE := hid (show ¬ q <+: p from fun e => by have := e.length_le; omega)
    clear hlen
    go_enter Tryd.func25, Tryd.ntmps25
    go_wp2
    go_ret
    exact ⟨.inr ⟨rfl, HNE.out⟩, Keep.refl _ _⟩
  · have hlenX : ¬ (p.length : Int) < q.length := by omega
    have HLEN := hid (show q.length ≤ p.length by omega)
    clear hlen
    go_enter Tryd.func25, Tryd.ntmps25
    go_wp2
    clear hlenX
    go_loopw [5] (fun i wr => ∃ j : Nat, j ≤ q.length ∧ i = .int .i64 j ∧ p.take j = q.take j ∧ Ext w wr) (fun i _ => q.length - (intOf i).toNat)
    case atStart => exact ⟨0, by omega, rfl, rfl, Keep.refl _ _⟩
    case round =>
      obtain ⟨j, hj, rfl, hpq, hE⟩ := hrel
      have HPQ := hid hpq
      clear hpq
      by_cases hlt2 : j < q.length
      · have hlt : j < p.length := by have := HLEN.out; omega
        obtain ⟨b1, o1, c0, rfl, _, _, hrd, hcell⟩ := (HA.out.ext ESt.ok hE).at_ ESt.ok hlt
        obtain ⟨b2, o2, c3, rfl, _, _, hrd2, hcell2⟩ := (HB.out.ext ESt.ok hE).at_ ESt.ok hlt2
        have HN := hid (And.intro (take_succ_get p j hlt) (take_succ_get q j hlt2))
        have HD := hid (show q <+: p → p[j] = q[j] from fun e => by
          obtain ⟨t, ht⟩ := e
          subst ht
          rw [List.getElem_append_left hlt2])
        generalize p[j] = s at *
        generalize q[j] = t at *
        obtain rfl : c0 = [.bool s.list, .int .i64 s.i, .string s.key] := hrd
        obtain rfl : c3 = [.bool t.list, .int .i64 t.i, .string t.key] := hrd2
        have e0 := hcell 0 _ rfl
        have e1 := hcell 1 _ rfl
        have e2 := hcell 2 _ rfl
        have d0 := hcell2 0 _ rfl
        have d1 := hcell2 1 _ rfl
        have d2 := hcell2 2 _ rfl
        have hz : ESt.size = 3 := rfl
        simp only [hz, Nat.add_zero] at e0 e1 e2 d0 d1 d2
        have HE := hid hE
        clear hz hcell hcell2 hE
        by_cases g1 : s.list = t.list
        · by_cases g2 : s.i = t.i
          · by_cases g3 : s.key.toList = t.key.toList
            · have HST := hid (show s = t from by
                cases s; cases t
                simp only at g1 g2 g3
                rw [g1, g2, key_eq g3])
              go_wp2_with fail
              refine wp_region_grow (specOf []) (fun w' => Ext wr w') stable_nil (stableC_ext _) (by kernel_rfl) (by kernel_rfl) (Keep.drew (Keep.refl _ _)) ?_
              iterate 9
                (try simp only [Act.put, List.setIfInBounds_toArray, List.set_cons_zero, List.set_cons_succ])
                refine grow_run rfl rfl rfl ?_
                apply Exists.intro
                refine ⟨fun w' hC hK => ?_, ?_⟩
                · have e0 := (hC.cell (lt_of_cell e0) id).trans e0
                  have e1 := (hC.cell (lt_of_cell e1) id).trans e1
                  have e2 := (hC.cell (lt_of_cell e2) id).trans e2
                  have d0 := (hC.cell (lt_of_cell d0) id).trans d0
                  have d1 := (hC.cell (lt_of_cell d1) id).trans d1
                  have d2 := (hC.cell (lt_of_cell d2) id).trans d2
                  go_simp
                  rfl
              refine grow_nil fun w5 hC _ => ?_
              have HE5 := hid (HE.out.ext (show Ext wr w5 from hC))
              clear hC e0 e1 e2 d0 d1 d2
              go_wp2
              go_roundw
              case rel => exact ⟨j + 1, by omega, by go_num, by rw [HN.out.1, HN.out.2, HPQ.out, HST.out], HE5.out⟩
              case measure => simp [intOf]; omega
            · have HNE := hid (show s ≠ t from fun e => g3 (by rw [e]))
              go_wp2_with fail
              refine wp_region_grow (specOf []) (fun w' => Ext wr w') stable_nil (stableC_ext _) (by kernel_rfl) (by kernel_rfl) (Keep.drew (Keep.refl _ _)) ?_
              iterate 9
                (try simp only [Act.put, List.setIfInBounds_toArray, List.set_cons_zero, List.set_cons_succ])
                refine grow_run rfl rfl rfl ?_
                apply Exists.intro
                refine ⟨fun w' hC hK => ?_, ?_⟩
                · have e0 := (hC.cell (lt_of_cell e0) id).trans e0
                  have e1 := (hC.cell (lt_of_cell e1) id).trans e1
                  have e2 := (hC.cell (lt_of_cell e2) id).trans e2
                  have d0 := (hC.cell (lt_of_cell d0) id).trans d0
                  have d1 := (hC.cell (lt_of_cell d1) id).trans d1
                  have d2 := (hC.cell (lt_of_cell d2) id).trans d2
                  go_simp
                  rfl
              refine grow_nil fun w5 hC _ => ?_
              have HE5 := hid (HE.out.ext (show Ext wr w5 from hC))
              clear hC e0 e1 e2 d0 d1 d2
              go_wp2
              go_ret
              exact ⟨.inr ⟨rfl, fun e => HNE.out (HD.out e)⟩, HE5.out⟩
          · have HNE := hid (show s ≠ t from fun e => g2 (by rw [e]))
            go_wp2_with fail
            refine wp_region_grow (specOf []) (fun w' => Ext wr w') stable_nil (stableC_ext _) (by kernel_rfl) (by kernel_rfl) (Keep.drew (Keep.refl _ _)) ?_
            iterate 9
              (try simp only [Act.put, List.setIfInBounds_toArray, List.set_cons_zero, List.set_cons_succ])
              refine grow_run rfl rfl rfl ?_
              apply Exists.intro
              refine ⟨fun w' hC hK => ?_, ?_⟩
              · have e0 := (hC.cell (lt_of_cell e0) id).trans e0
                have e1 := (hC.cell (lt_of_cell e1) id).trans e1
                have e2 := (hC.cell (lt_of_cell e2) id).trans e2
                have d0 := (hC.cell (lt_of_cell d0) id).trans d0
                have d1 := (hC.cell (lt_of_cell d1) id).trans d1
                have d2 := (hC.cell (lt_of_cell d2) id).trans d2
                go_simp
                rfl
            refine grow_nil fun w5 hC _ => ?_
            have HE5 := hid (HE.out.ext (show Ext wr w5 from hC))
            clear hC e0 e1 e2 d0 d1 d2
            go_wp2
            go_ret
            exact ⟨.inr ⟨rfl, fun e => HNE.out (HD.out e)⟩, HE5.out⟩
        · have HNE := hid (show s ≠ t from fun e => g1 (by rw [e]))
          go_wp2_with fail
          refine wp_region_grow (specOf []) (fun w' => Ext wr w') stable_nil (stableC_ext _) (by kernel_rfl) (by kernel_rfl) (Keep.drew (Keep.refl _ _)) ?_
          iterate 9
            (try simp only [Act.put, List.setIfInBounds_toArray, List.set_cons_zero, List.set_cons_succ])
            refine grow_run rfl rfl rfl ?_
            apply Exists.intro
            refine ⟨fun w' hC hK => ?_, ?_⟩
            · have e0 := (hC.cell (lt_of_cell e0) id).trans e0
              have e1 := (hC.cell (lt_of_cell e1) id).trans e1
              have e2 := (hC.cell (lt_of_cell e2) id).trans e2
              have d0 := (hC.cell (lt_of_cell d0) id).trans d0
              have d1 := (hC.cell (lt_of_cell d1) id).trans d1
              have d2 := (hC.cell (lt_of_cell d2) id).trans d2
              go_simp
              rfl
          refine grow_nil fun w5 hC _ => ?_
          have HE5 := hid (HE.out.ext (show Ext wr w5 from hC))
          clear hC e0 e1 e2 d0 d1 d2
          go_wp2
          go_ret
          exact ⟨.inr ⟨rfl, fun e => HNE.out (HD.out e)⟩, HE5.out⟩
      · obtain rfl : j = q.length := by omega
        have HE := hid hE
        clear hE
        go_wp2
        go_ret
        refine ⟨.inl ⟨rfl, ?_⟩, HE.out⟩
        have := HPQ.out
        rw [List.take_length] at this
        exact this ▸ List.take_prefix _ _

theorem tmod_nat (a n : Nat) (h : 0 < n) : ∃ m : Nat, m < n ∧ (a : Int).tmod (n : Int) = m := ⟨a % n, Nat.mod_lt _ h, by rw [Int.ofNat_tmod]⟩
set_option maxHeartbeats 3200000 in
theorem sounds_walk (pv qv : Value) (k : Int) (hk : (Lit.int .i64 k).wf = true) (p q : List St) (w : World) (hp : Sl ESt w (fun _ => True) pv p) (hq : Sl ESt w (fun _ => True) qv q) (hs : ∀ s ∈ p, SmallS s) (hv : ValAny w) :
    Calls Tryd.prog 8 #[pv, qv, .int .i64 k] w fun e w' => e = .returned (.bool true) ∧ Ext w w' := by
  obtain ⟨Ap, cp, rfl, hlc, hcm⟩ := hp.shape
  obtain ⟨Aq, cq, rfl, _, _⟩ := hq.shape
  have HP := hid hp
  have HQ := hid hq
  have HS := hid hs
  have HV := hid hv
  clear hp hq hs hv
  obtain ⟨i0, hmax, hi0⟩ := run_max0 k hk
  unfold maxLen at hi0 hcm
  clear hk
  have hend : ∀ wx, Ext w wx → Calls Tryd.prog 11 #[] wx fun e w' => e = .returned (.bool true) ∧ Ext w w' := fun wx h => (known3_ok wx).mono fun e w' h2 => ⟨h2.1, h.ext h2.2⟩
  have HEND := hid hend
  clear hend
  have HEW := hid (Keep.refl (fun _ => False) w)
  go_enter Tryd.func8, Tryd.ntmps8
  go_wp2_with fail
  refine (heavy_ok _ _ _ _ _ [] p (Sl.nil _ (fun _ => True)) HP.out).mono ?_
  rintro e w1 ⟨b1, rfl, hb, hE⟩
  have HB1 := hid hb
  clear hb
  replace HP := hid (HP.out.ext ESt.ok hE)
  replace HQ := hid (HQ.out.ext ESt.ok hE)
  replace HEW := hid (HEW.out.ext hE)
  clear hE
  cases b1 with
  | true =>
    go_wp2_with fail
    refine (HEND.out _ HEW.out).mono ?_
    rintro e w2 ⟨rfl, hz⟩
    have HZ := hid hz
    clear hz
    go_wp2
    go_ret
    exact ⟨rfl, HZ.out⟩
  | false =>
    go_wp2_with fail
    refine (heavy_ok _ _ _ _ _ [] q (Sl.nil _ (fun _ => True)) HQ.out).mono ?_
    rintro e w3 ⟨b3, rfl, hb, hE⟩
    clear hb
    replace HP := hid (HP.out.ext ESt.ok hE)
    replace HQ := hid (HQ.out.ext ESt.ok hE)
    replace HEW := hid (HEW.out.ext hE)
    clear hE
    cases b3 with
    | true =>
      go_wp2_with fail
      refine (HEND.out _ HEW.out).mono ?_
      rintro e w2 ⟨rfl, hz⟩
      have HZ := hid hz
      clear hz
      go_wp2
      go_ret
      exact ⟨rfl, HZ.out⟩
    | false =>
      go_wp2_with fail
      refine (known3_ok _).mono ?_
      rintro e w5 ⟨rfl, hE⟩
      replace HP := hid (HP.out.ext ESt.ok hE)
      replace HQ := hid (HQ.out.ext ESt.ok hE)
      replace HEW := hid (HEW.out.ext hE)
      clear hE HEND
      have hpl : p.length ≤ 40 := (HB1.out trivial).2
      clear HB1
      obtain ⟨n, hn, hnt⟩ := tmod_nat i0 (p.length + 1) (by omega)
      have hnt : (i0 : Int).tmod ((p.length : Int) + 1) = n := by rw [← hnt]; congr 1
      have hnz : (p.length : Int) + 1 ≠ 0 := by omega
      obtain ⟨rf, f1⟩ := front_fact (P := Tryd.prog) ESt.ok ty_st HP.out (b := (n : Int)) rfl (by omega)
      have HFR := hid f1
      clear f1
      obtain ⟨r, hr⟩ : ∃ r : Bool, (decide (p.length ≤ 16) && !p.any badS) = r := ⟨_, rfl⟩
      obtain ⟨y, hy⟩ : ∃ y : Bool, y = true ↔ q <+: p := (Classical.em (q <+: p)).elim (fun h => ⟨true, by simp [h]⟩) (fun h => ⟨false, by simp [h]⟩)
      have HR := hid hr
      have HY := hid hy
      have HY3 := hid (show p.take n <+: p from List.take_prefix _ _)
      have HY4 := hid (show decide (n = p.length) = true ↔ p <+: p.take n from by
        constructor
        · intro h
          have h : n = p.length := by simpa using h
          rw [h, List.take_length]
          exact List.prefix_rfl
        · intro h
          have := h.length_le
          rw [List.length_take] at this
          have : n = p.length := by omega
          simp [this])
      clear hr hy
      go_wp2_with fail
      refine (path_sound badS _ _ _ p HP.out fun s hs => bad_ok _ (HV.out.ext HEW.out) s (HS.out s hs)).mono ?_
      rw [HR.out]
      rintro e w6 ⟨rfl, hE⟩
      replace HP := hid (HP.out.ext ESt.ok hE)
      replace HQ := hid (HQ.out.ext ESt.ok hE)
      replace HFR := hid (HFR.out.ext ESt.ok hE)
      replace HEW := hid (HEW.out.ext hE)
      clear hE
      go_wp2_with fail
      refine (rsnd_ok _ _ HV.out HEW.out _ _ p HP.out HS.out).mono ?_
      rw [HR.out]
      rintro e w7 ⟨rfl, hE⟩
      replace HP := hid (HP.out.ext ESt.ok hE)
      replace HQ := hid (HQ.out.ext ESt.ok hE)
      replace HFR := hid (HFR.out.ext ESt.ok hE)
      replace HEW := hid (HEW.out.ext hE)
      clear hE HR
      have hrr : (r == r) = true := by simp
      go_wp2_with fail
      refine (begins_ok _ _ _ _ _ p q HP.out HQ.out).mono ?_
      intro e w8 hg
      obtain ⟨rfl, hE⟩ := hg.is y HY.out
      clear hg
      replace HP := hid (HP.out.ext ESt.ok hE)
      replace HQ := hid (HQ.out.ext ESt.ok hE)
      replace HFR := hid (HFR.out.ext ESt.ok hE)
      replace HEW := hid (HEW.out.ext hE)
      clear hE hrr
      go_wp2_with fail
      refine (rbegins_ok _ _ _ _ _ p q HP.out HQ.out).mono ?_
      intro e w9 hg
      obtain ⟨rfl, hE⟩ := hg.is y HY.out
      clear hg
      replace HP := hid (HP.out.ext ESt.ok hE)
      replace HQ := hid (HQ.out.ext ESt.ok hE)
      replace HFR := hid (HFR.out.ext ESt.ok hE)
      replace HEW := hid (HEW.out.ext hE)
      clear hE HY
      have hyy : (y == y) = true := by simp
      go_wp2_with fail
      refine (begins_ok _ _ _ _ _ p (p.take n) HP.out HFR.out).mono ?_
      intro e w10 hg
      obtain ⟨rfl, hE⟩ := hg.yes HY3.out
      clear hg
      replace HP := hid (HP.out.ext ESt.ok hE)
      replace HFR := hid (HFR.out.ext ESt.ok hE)
      replace HEW := hid (HEW.out.ext hE)
      clear hE HY3 hyy
      go_wp2_with fail
      refine (begins_ok _ _ _ _ _ (p.take n) p HFR.out HP.out).mono ?_
      intro e w11 hg
      obtain ⟨rfl, hE⟩ := hg.is _ HY4.out
      clear hg
      replace HEW := hid (HEW.out.ext hE)
      clear hE HY4
      by_cases hnp : n = p.length
      · have hX : ((n : Int) == p.length) = true := by rw [hnp]; simp
        have hX2 : decide (n = p.length) = true := by simpa using hnp
        rw [hX2]
        clear hnp hX2
        go_wp2
        go_ret
        exact ⟨by first | rfl | simp, HEW.out⟩
      · have hX : ((n : Int) == p.length) = false := by simp; omega
        have hX2 : decide (n = p.length) = false := by simpa using hnp
        rw [hX2]
        clear hnp hX2
        go_wp2
        go_ret
        exact ⟨by first | rfl | simp, HEW.out⟩
theorem sounds_lift {Q0 Q1 : Prop} (pv : Value) (p : List St) (qv : Value) (q : List St) (k : Int) (w : World) (h0 : Sl ESt w (fun k => k < w.heap.size) pv p) (q0 : Q0 ∧ ∀ s ∈ p, s.key.size ≤ reachBytes) (h1 : Sl ESt w (fun k => k < w.heap.size) qv q) (q1 : Q1) (hk : (Lit.int .i64 k).wf = true) (hv : ValAny w) :
    Calls Tryd.prog 8 #[pv, qv, .int .i64 k] w fun e w' => e = .returned (.bool true) ∧ Below w.heap.size w w' :=
  (sounds_walk pv qv k hk p q w (h0.more ESt.ok fun _ _ _ => trivial) (h1.more ESt.ok fun _ _ _ => trivial) (fun s hs => by have := q0.2 s hs; unfold reachBytes at this; unfold SmallS; omega) hv).mono fun e w' h => ⟨h.1, h.2.toBelow⟩
end Go.Proofs.YtjdpljjbgggpiaaDoor
