/- RDE, RDF, RDG, RDH, RDI in one. -/
import Derived.Test.YtikophoopapngaaRDD
set_option linter.unusedSimpArgs false
set_option linter.unusedVariables false
/- The reference's disk: Cut. -/
namespace Go.Proofs.Ytikophoopapngaa
open Go.RowKit
set_option linter.unusedVariables false

set_option maxHeartbeats 6400000 in
theorem ref_cut (w : World) (B : BS) (r : Nat) (cs : List DC) (s : DSt) (name : ByteArray) (n : Int) (hl : -1 ≤ s.left ∧ s.left ≤ 9223372036854775807) (hp : cs.Pairwise fun x y => x.name ≠ y.name) (h : RdIs w B r cs s) :
    Calls Try.prog 37 #[.pointer (some ⟨r, 0, none⟩), .string name, .int .i64 n] w (RRes w B r s (cutR cs s name.data.toList n)) := by
  have HC := hid (ref_call w B r cs s hl h)
  obtain ⟨F0, dead0, h0⟩ := h
  have hB := h0.own
  obtain ⟨g, hg⟩ : ∃ g, goesC s.left = g := ⟨_, rfl⟩
  have HG := hid hg
  have HP := hid hp
  clear h0 hl hg hp
  go_enter Try.func37, Try.ntmps37
  go_wp2_with fail
  refine HC.out.mono ?_
  rw [HG.out]
  rintro e wz ⟨rfl, hr, hk⟩
  have HR := hid hr
  have HK := hid (show Keep B w wz from hk.mono fun k _ e => by subst e; exact hB)
  clear hr hk HC hB
  cases g with
  | false =>
    have HE := hid (show cutR cs s name.data.toList n = (130, cs) by rw [cutR, if_pos HG.out])
    go_wp2
    go_ret
    unfold RRes
    rw [HE.out]
    exact ⟨rfl, HR.out.moreB, HK.out⟩
  | true =>
    go_wp2_with fail
    refine (ref_find wz B r cs _ name HR.out).mono ?_
    rcases find_cases cs name.data.toList with ⟨hz, hf, hh⟩ | ⟨k, hk, hz, hf, hn, hh⟩
    · rw [hz]
      have HE := hid (show cutR cs s name.data.toList n = (131, cs) by rw [cutR, if_neg (by simp [HG.out]), hf])
      clear hz hf hh
      rintro e w1 ⟨rfl, rfl⟩
      go_wp2
      go_ret
      unfold RRes
      rw [HE.out]
      exact ⟨rfl, HR.out.moreB, HK.out⟩
    · rw [hz]
      obtain ⟨F, dead, h⟩ := HR.out
      obtain ⟨_, c1, _, _, _⟩ := h.cells
      obtain ⟨A, c, rfl, hlc, hcm⟩ := h.row.shape
      obtain ⟨g, rfl⟩ : ∃ g, A = some ⟨g, 0, none⟩ := by
        obtain ⟨g, cap, e, _⟩ := h.row.form (by omega)
        injection e with e1
        exact ⟨g, e1⟩
      obtain ⟨c0, ⟨bv, rfl, hb⟩, hcell⟩ := h.row.at_ EFl.ok hk
      obtain ⟨A2, c2, rfl, hc2, _⟩ := hb.shape
      have e1 := hcell 1 _ rfl
      have e2 := hcell 2 _ rfl
      have e3 : EFl.size = 3 := rfl
      simp only [e3] at e1 e2
      have hfz := h.row.frozen
      have hkX : (k : Int) < cs.length := by omega
      unfold maxLen at hcm
      have HH := hid h
      have HNF := hid (h.ownF g rfl)
      have HB := hid hb
      have HE0 := hid (show cutR cs s name.data.toList n = if n < 0 ∨ (cs[k].b.length : Int) < n then (1, cs) else (0, updC (cutC n.toNat) cs name.data.toList) by rw [cutR, if_neg (by simp [HG.out]), hf])
      have HUS := hid (upd_set (g := cutC n.toNat) hk HP.out hn)
      clear h hz hf hh hcell e3 hn hb
      rintro e w1 ⟨rfl, rfl⟩
      by_cases hneg : n < 0
      · have hX : decide (n < 0) = true := by simpa using hneg
        have HE := hid (show cutR cs s name.data.toList n = (1, cs) by rw [HE0.out, if_pos (.inl hneg)])
        clear hneg
        go_wp2
        go_ret
        unfold RRes
        rw [HE.out]
        exact ⟨rfl, HR.out.moreB, HK.out⟩
      · obtain ⟨m, rfl⟩ : ∃ m : Nat, n = m := ⟨n.toNat, by omega⟩
        rw [Int.toNat_natCast] at HUS
        by_cases hgt : cs[k].b.length < m
        · have hX : decide ((m : Int) < 0) = false := by simp
          have hX2 : decide (((cs[k].b.length : Nat) : Int) < (m : Int)) = true := by simp; omega
          have hX3 : decide (cs[k].b.length < m) = true := by simp; omega
          have HE := hid (show cutR cs s name.data.toList m = (1, cs) by rw [HE0.out, if_pos (.inr (by omega))])
          clear hneg hgt
          generalize cs[k].b.length = q at *
          go_wp2
          go_ret
          unfold RRes
          rw [HE.out]
          exact ⟨rfl, HR.out.moreB, HK.out⟩
        · have hX : decide ((m : Int) < 0) = false := by simp
          have hX2 : decide (((cs[k].b.length : Nat) : Int) < (m : Int)) = false := by simp; omega
          have hX3 : decide (cs[k].b.length < m) = false := by simp; omega
          have HE := hid (show cutR cs s name.data.toList m = (0, cs.set k (cutC m cs[k])) by rw [HE0.out, if_neg (by omega), Int.toNat_natCast, HUS.out])
          have hfa := front_fact (P := Try.prog) EU8.ok ty_u8 HB.out (b := (m : Int)) rfl (by omega)
          obtain ⟨hcut, hfr⟩ := hfa
          have HFR := hid hfr
          clear hneg hgt hfr HB
          generalize hbl : cs[k].b.length = q at *
          generalize hll : cs[k].l = ll at *
          have HLL := hid hll
          have HMN := hid (show ((min ll m : Nat) : Int) = min (ll : Int) (m : Int) by omega)
          clear hbl hll
          go_wp2_with fail
          refine wp_region_parts [] [0, 1, 2, 3, 4, 5, 6, 7, 8, 9, 10, 11, 12, 13, 14, 15, 16] [17] (specOf []) (fun w' => Ext wz w') stable_nil (stableC_ext _) (by kernel_rfl) (by kernel_rfl) (Keep.drew (Keep.refl _ _)) ?_
          refine pure_nil ?_
          iterate 17
            (try simp only [Act.put, List.setIfInBounds_toArray, List.set_cons_zero, List.set_cons_succ])
            refine growP_run rfl rfl rfl ?_
            apply Exists.intro
            refine ⟨fun w' hC hK => ?_, ?_⟩
            · have c1 := (hC.cell (lt_of_cell c1) id).trans c1
              have e1 := (hC.cell (lt_of_cell e1) id).trans e1
              go_simp
              rfl
          refine growP_nil fun w4 hC hK => ?_
          have hC : Ext wz w4 := hC
          have hH4 := HH.out.keep hC fun _ _ x => x
          have e1' := (hC.cell (lt_of_cell e1) id).trans e1
          have hfz4 := hH4.row.frozen
          have HH4 := hid hH4
          have HK4 := hid (HK.out.ext hC)
          have HFR4 := hid (HFR.out.ext EU8.ok hC)
          have e2' := (hC.cell (lt_of_cell e2) id).trans e2
          have c1' := (hC.cell (lt_of_cell c1) id).trans c1
          clear hC hK hH4 e1 e2 c1 hfz hcut
          change wpList _ _ _ (_ :: []) _ _
          (try simp only [Act.put, List.setIfInBounds_toArray, List.set_cons_zero, List.set_cons_succ])
          go_wp2_with fail
          refine NoPanic.normal ?_
          have hks : Keep (· = g) w4 (w4.setCell ⟨g, k * 3 + 1, none⟩ (.slice A2 m c2)) := (Keep.refl _ _).set1 _ _
          have hset := (own_setB HH4.out.row hk (fun h => h.2.2 rfl) HFR4.out (fun h => h.2.2 rfl)).more (S' := fun q => B q ∧ q ≠ r ∧ (Value.slice (some ⟨g, 0, none⟩) cs.length c).ownBlock ≠ some q) EFl.ok fun _ _ h => h.elim id id
          have hH5 := HH4.out.setRow hks hset
          have c5 := (hks.cell (lt_of_cell c1') (fun e => HNF.out.2 e.symm)).trans c1'
          have e5 : (w4.setCell ⟨g, k * 3 + 1, none⟩ (.slice A2 m c2)).cell? ⟨g, k * 3 + 2, none⟩ = some (.int .i64 (ll : Int)) := by rw [World.cell?_setCell_other _ _ _ _ (by simp)]; exact e2'
          have HK5 := hid (show Keep B w (w4.setCell ⟨g, k * 3 + 1, none⟩ (.slice A2 m c2)) from HK4.out.trans hks fun k _ e => by subst e; exact HNF.out.1)
          have HH5 := hid hH5
          generalize w4.setCell ⟨g, k * 3 + 1, none⟩ (.slice A2 m c2) = w5 at *
          clear hks hset hH5 e1' e2' c1' hfz4
          go_wp2_with fail
          refine wp_region_parts [] [0, 1, 2, 3, 4, 5, 6, 7, 8, 9, 10, 11, 12, 13, 14, 15, 16] [17] (specOf []) (fun w' => Ext w5 w') stable_nil (stableC_ext _) (by kernel_rfl) (by kernel_rfl) (Keep.drew (Keep.refl _ _)) ?_
          refine pure_nil ?_
          iterate 17
            (try simp only [Act.put, List.setIfInBounds_toArray, List.set_cons_zero, List.set_cons_succ])
            refine growP_run rfl rfl rfl ?_
            apply Exists.intro
            refine ⟨fun w' hC hK => ?_, ?_⟩
            · have c5 := (hC.cell (lt_of_cell c5) id).trans c5
              have e5 := (hC.cell (lt_of_cell e5) id).trans e5
              go_simp
              rfl
          refine growP_nil fun w6 hC hK => ?_
          have hC : Ext w5 w6 := hC
          have hH6 := HH5.out.keep hC fun _ _ x => x
          have hfz6 := hH6.row.frozen
          have e6' := (hC.cell (lt_of_cell e5) id).trans e5
          have HH6 := hid hH6
          have HK6 := hid (HK5.out.ext hC)
          clear hC hK hH6 c5 e5
          change wpList _ _ _ (_ :: []) _ _
          (try simp only [Act.put, List.setIfInBounds_toArray, List.set_cons_zero, List.set_cons_succ])
          go_wp2_with fail
          refine NoPanic.normal ?_
          go_wp2
          go_ret
          unfold RRes
          rw [HE.out]
          have hks : Keep (· = g) w6 (w6.setCell ⟨g, k * 3 + 2, none⟩ (.int .i64 ((min ll m : Nat) : Int))) := (Keep.refl _ _).set1 _ _
          have hset := own_setL (l := min ll m) HH6.out.row (by rw [List.length_set]; exact hk) (fun h => h.2.2 rfl)
          rw [List.set_set, List.getElem_set_self] at hset
          rw [← HMN.out]
          refine ⟨rfl, RdIs.moreB ⟨_, dead, HH6.out.setRow hks ?_⟩, HK6.out.trans hks fun k _ e => by subst e; exact HNF.out.1⟩
          rw [show cutC m cs[k] = { name := cs[k].name, b := cs[k].b.take m, l := min ll m } from by unfold cutC; rw [HLL.out]]
          exact hset
end Go.Proofs.Ytikophoopapngaa

/- The reference's disk: Crash. -/
namespace Go.Proofs.Ytikophoopapngaa
open Go.RowKit
set_option linter.unusedVariables false

/-- The first j files crashed. -/
def midC (k : Nat) (cs : List DC) (j : Nat) : List DC := (cs.take j).map (crashC k) ++ cs.drop j
theorem midC_len (k : Nat) (cs : List DC) (j : Nat) : (midC k cs j).length = cs.length := by unfold midC; simp; omega
theorem midC_get (k : Nat) {cs : List DC} {j : Nat} (hj : j < cs.length) : (midC k cs j)[j]'(by rw [midC_len]; exact hj) = cs[j] := by
  unfold midC
  rw [List.getElem_append_right (by simp; omega)]
  simp only [List.getElem_drop, List.length_map, List.length_take]
  congr 1
  omega
theorem midC_next (k : Nat) {cs : List DC} {j : Nat} (hj : j < cs.length) : (midC k cs j).set j (crashC k (cs[j]'hj)) = midC k cs (j + 1) := by
  unfold midC
  have h1 : ((cs.take j).map (crashC k)).length = j := by simp; omega
  rw [List.set_append_right _ _ (by omega), h1, Nat.sub_self, List.drop_eq_getElem_cons hj, List.set_cons_zero, List.take_succ_eq_append_getElem hj, List.map_append, List.append_assoc]
  rfl
set_option maxHeartbeats 6400000 in
theorem ref_crash (w : World) (B : BS) (r : Nat) (cs : List DC) (s : DSt) (keep : Int) (hu : usedC cs ≤ 1048576) (hl : ∀ c ∈ cs, c.l ≤ c.b.length) (h : RdIs w B r cs s) :
    Calls Try.prog 40 #[.pointer (some ⟨r, 0, none⟩), .int .i64 keep] w fun e w' => e = .returned (.tuple #[]) ∧ RdIs w' B r (cs.map (crashC keep.toNat)) ⟨s.room, false, -1⟩ ∧ Keep B w w' := by
  obtain ⟨F, dead, h⟩ := h
  obtain ⟨kk, hkk⟩ : ∃ kk : Nat, keep.toNat = kk := ⟨_, rfl⟩
  obtain ⟨A, c, rfl, hlc, hcm⟩ := h.row.shape
  unfold maxLen at hcm
  have HH := hid h
  have HU := hid hu
  have HL := hid hl
  have HKK := hid hkk
  have hm0 : midC kk cs 0 = cs := by unfold midC; simp
  have HM0 := hid hm0
  have hmn : midC kk cs cs.length = cs.map (crashC kk) := by unfold midC; simp
  have HMN := hid hmn
  clear h hu hl hkk hm0 hmn
  generalize hn : cs.length = n at *
  have HN := hid hn
  clear hn
  go_enter Try.func40, Try.ntmps40
  go_wp2_with fail
  go_loopw [4] (fun i wr => ∃ j : Nat, j ≤ n ∧ i = .int .i64 j ∧ RdAt wr B r (midC kk cs j) s (.slice A n c) dead ∧ Keep B w wr) (fun i _ => n - (intOf i).toNat)
  case atStart => exact ⟨0, by omega, rfl, by rw [HM0.out]; exact HH.out, Keep.refl _ _⟩
  case round =>
    obtain ⟨j, hj, rfl, hat, hkb⟩ := hrel
    obtain ⟨_, c1, c2, c3, c4⟩ := hat.cells
    have HAT := hid hat
    have HKB := hid hkb
    clear hkb
    by_cases hlt : j < n
    · have hjm : j < cs.length := by rw [HN.out]; exact hlt
      have hjk : j < (midC kk cs j).length := by rw [midC_len]; exact hjm
      obtain ⟨g, rfl⟩ : ∃ g, A = some ⟨g, 0, none⟩ := by
        obtain ⟨g, cap, e, _⟩ := hat.row.form (by omega)
        injection e with e1
        exact ⟨g, e1⟩
      have hrw := hat.row
      obtain ⟨c0, ⟨bv, rfl, hb⟩, hcell⟩ := hrw.at_ EFl.ok hjk
      rw [midC_get kk hjm] at hb hcell
      obtain ⟨A2, c2', rfl, hc2, _⟩ := hb.shape
      have e1 := hcell 1 _ rfl
      have e2 := hcell 2 _ rfl
      have e3 : EFl.size = 3 := rfl
      simp only [e3] at e1 e2
      have hfz := hat.row.frozen
      have hjX : (j : Int) < n := by omega
      have HNF := hid (hat.ownF g rfl)
      have HB := hid hb
      have HLN := hid (Nat.le_trans (mem_usedC (List.getElem_mem hjm)) HU.out)
      have HLL := hid (HL.out _ (List.getElem_mem hjm))
      have HNX := hid (midC_next kk hjm)
      have HGX := hid (midC_get kk hjm)
      have HJK := hid hjk
      clear hcell e3 hb hrw hat c2 c3 c4 hjk
      obtain ⟨m, hm⟩ : ∃ m, keptC kk cs[j] = m := ⟨_, rfl⟩
      have HMK := hid hm
      have hmle : m ≤ cs[j].b.length := by have := HLL.out; unfold keptC at hm; omega
      obtain ⟨hcut, hfr⟩ := front_fact (P := Try.prog) EU8.ok ty_u8 HB.out (b := (m : Int)) rfl hmle
      have HFR := hid hfr
      unfold keptC at hm
      have ew : IntKind.i64.wrap ((j : Int) + 1) = ((j + 1 : Nat) : Int) := by rw [IntKind.wrap_i64]; omega
      have EW := hid ew
      have HCX := hid (show crashC kk cs[j] = { name := cs[j].name, b := cs[j].b.take m, l := m } by unfold crashC; rw [HMK.out])
      clear hfr hmle HB ew HMK
      generalize hbl : cs[j].b.length = q at *
      generalize hll : cs[j].l = ll at *
      clear hbl hll
      have HMM := hid hm
      have HKX := HKK.out
      by_cases hkp : 0 < keep
      · obtain rfl : keep = (kk : Int) := by omega
        have hX : decide ((0 : Int) < (kk : Int)) = true := by simpa using hkp
        have hX2 : decide (0 < kk) = true := by simp; omega
        have e5 : IntKind.i64.wrap ((q : Int) - (ll : Int)) = (q : Int) - (ll : Int) := by have := HLN.out; have := HLL.out; rw [IntKind.wrap_i64]; omega
        have e7 : (ll : Int) + min (kk : Int) ((q : Int) - (ll : Int)) = (m : Int) := by have := HLL.out; omega
        have e6 : IntKind.i64.wrap ((ll : Int) + min (kk : Int) ((q : Int) - (ll : Int))) = (m : Int) := by have := HLN.out; have := HLL.out; rw [e7, IntKind.wrap_i64]; omega
        clear e7
        clear hkp hm HKX
        go_wp2_with fail
        refine wp_region_parts [] [0, 1, 2, 3, 4, 5, 6, 7, 8, 9, 10, 11, 12, 13, 14, 15, 16] [17] (specOf []) (fun w' => Ext wr w') stable_nil (stableC_ext _) (by kernel_rfl) (by kernel_rfl) (Keep.drew (Keep.refl _ _)) ?_
        refine pure_nil ?_
        iterate 17
          (try simp only [Act.put, List.setIfInBounds_toArray, List.set_cons_zero, List.set_cons_succ])
          refine growP_run rfl rfl rfl ?_
          apply Exists.intro
          refine ⟨fun w' hC hK => ?_, ?_⟩
          · have c1 := (hC.cell (lt_of_cell c1) id).trans c1
            have e1 := (hC.cell (lt_of_cell e1) id).trans e1
            go_simp
            rfl
        refine growP_nil fun w4 hC hK => ?_
        have hC : Ext wr w4 := hC
        have hH4 := HAT.out.keep hC fun _ _ x => x
        have e1' := (hC.cell (lt_of_cell e1) id).trans e1
        have hfz4 := hH4.row.frozen
        have HH4 := hid hH4
        have HK4 := hid (HKB.out.ext hC)
        have HFR4 := hid (HFR.out.ext EU8.ok hC)
        have e2' := (hC.cell (lt_of_cell e2) id).trans e2
        have c1' := (hC.cell (lt_of_cell c1) id).trans c1
        clear hC hK hH4 e1 e2 c1 hfz hcut
        change wpList _ _ _ (_ :: []) _ _
        (try simp only [Act.put, List.setIfInBounds_toArray, List.set_cons_zero, List.set_cons_succ])
        go_wp2_with fail
        refine NoPanic.normal ?_
        have hks : Keep (· = g) w4 (w4.setCell ⟨g, j * 3 + 1, none⟩ (.slice A2 m c2')) := (Keep.refl _ _).set1 _ _
        have hset := (own_setB HH4.out.row HJK.out (fun h => h.2.2 rfl) HFR4.out (fun h => h.2.2 rfl)).more (S' := fun q => B q ∧ q ≠ r ∧ (Value.slice (some ⟨g, 0, none⟩) n c).ownBlock ≠ some q) EFl.ok fun _ _ h => h.elim id id
        have hH5 := HH4.out.setRow hks hset
        have c5 := (hks.cell (lt_of_cell c1') (fun e => HNF.out.2 e.symm)).trans c1'
        have e5 : (w4.setCell ⟨g, j * 3 + 1, none⟩ (.slice A2 m c2')).cell? ⟨g, j * 3 + 2, none⟩ = some (.int .i64 (ll : Int)) := by rw [World.cell?_setCell_other _ _ _ _ (by simp)]; exact e2'
        have HK5 := hid (show Keep B w (w4.setCell ⟨g, j * 3 + 1, none⟩ (.slice A2 m c2')) from HK4.out.trans hks fun k _ e => by subst e; exact HNF.out.1)
        have HH5 := hid hH5
        generalize w4.setCell ⟨g, j * 3 + 1, none⟩ (.slice A2 m c2') = w5 at *
        clear hks hset hH5 e1' e2' c1' hfz4
        have hfz5 := HH5.out.row.frozen
        have EW2 := EW.out
        have hks2 : Keep (· = g) w5 (w5.setCell ⟨g, j * 3 + 2, none⟩ (.int .i64 (m : Int))) := (Keep.refl _ _).set1 _ _
        have hset2 := own_setL (l := m) HH5.out.row (by rw [List.length_set]; exact HJK.out) (fun h => h.2.2 rfl)
        rw [List.set_set, List.getElem_set_self] at hset2
        have hXc : ({ (midC kk cs j)[j]'HJK.out with b := cs[j].b.take m, l := m } : DC) = crashC kk cs[j] := by rw [HCX.out, HGX.out]
        have hH6 := hid (show RdAt (w5.setCell ⟨g, j * 3 + 2, none⟩ (.int .i64 (m : Int))) B r (midC kk cs (j + 1)) s (.slice (some ⟨g, 0, none⟩) n c) dead from HH5.out.setRow hks2 (by rw [← HNX.out, ← hXc]; exact hset2))
        have hK6 := hid (HK5.out.trans hks2 fun k _ e => by subst e; exact HNF.out.1)
        clear hks2 hset2 hXc
        go_wp2
        go_roundw
        case rel => exact ⟨j + 1, by omega, by go_num, hH6.out, hK6.out⟩
        case measure => simp only [intOf]; omega
      · have hX : decide ((0 : Int) < keep) = false := by simp; omega
        have hml : m = ll := by omega
        subst hml
        clear hkp hm HKX
        go_wp2_with fail
        refine wp_region_parts [] [0, 1, 2, 3, 4, 5, 6, 7, 8, 9, 10, 11, 12, 13, 14, 15, 16] [17] (specOf []) (fun w' => Ext wr w') stable_nil (stableC_ext _) (by kernel_rfl) (by kernel_rfl) (Keep.drew (Keep.refl _ _)) ?_
        refine pure_nil ?_
        iterate 17
          (try simp only [Act.put, List.setIfInBounds_toArray, List.set_cons_zero, List.set_cons_succ])
          refine growP_run rfl rfl rfl ?_
          apply Exists.intro
          refine ⟨fun w' hC hK => ?_, ?_⟩
          · have c1 := (hC.cell (lt_of_cell c1) id).trans c1
            have e1 := (hC.cell (lt_of_cell e1) id).trans e1
            go_simp
            rfl
        refine growP_nil fun w4 hC hK => ?_
        have hC : Ext wr w4 := hC
        have hH4 := HAT.out.keep hC fun _ _ x => x
        have e1' := (hC.cell (lt_of_cell e1) id).trans e1
        have hfz4 := hH4.row.frozen
        have HH4 := hid hH4
        have HK4 := hid (HKB.out.ext hC)
        have HFR4 := hid (HFR.out.ext EU8.ok hC)
        have e2' := (hC.cell (lt_of_cell e2) id).trans e2
        have c1' := (hC.cell (lt_of_cell c1) id).trans c1
        clear hC hK hH4 e1 e2 c1 hfz hcut
        change wpList _ _ _ (_ :: []) _ _
        (try simp only [Act.put, List.setIfInBounds_toArray, List.set_cons_zero, List.set_cons_succ])
        go_wp2_with fail
        refine NoPanic.normal ?_
        have hks : Keep (· = g) w4 (w4.setCell ⟨g, j * 3 + 1, none⟩ (.slice A2 m c2')) := (Keep.refl _ _).set1 _ _
        have hset := (own_setB HH4.out.row HJK.out (fun h => h.2.2 rfl) HFR4.out (fun h => h.2.2 rfl)).more (S' := fun q => B q ∧ q ≠ r ∧ (Value.slice (some ⟨g, 0, none⟩) n c).ownBlock ≠ some q) EFl.ok fun _ _ h => h.elim id id
        have hH5 := HH4.out.setRow hks hset
        have c5 := (hks.cell (lt_of_cell c1') (fun e => HNF.out.2 e.symm)).trans c1'
        have e5 : (w4.setCell ⟨g, j * 3 + 1, none⟩ (.slice A2 m c2')).cell? ⟨g, j * 3 + 2, none⟩ = some (.int .i64 (m : Int)) := by rw [World.cell?_setCell_other _ _ _ _ (by simp)]; exact e2'
        have HK5 := hid (show Keep B w (w4.setCell ⟨g, j * 3 + 1, none⟩ (.slice A2 m c2')) from HK4.out.trans hks fun k _ e => by subst e; exact HNF.out.1)
        have HH5 := hid hH5
        generalize w4.setCell ⟨g, j * 3 + 1, none⟩ (.slice A2 m c2') = w5 at *
        clear hks hset hH5 e1' e2' c1' hfz4
        have hfz5 := HH5.out.row.frozen
        have EW2 := EW.out
        have hks2 : Keep (· = g) w5 (w5.setCell ⟨g, j * 3 + 2, none⟩ (.int .i64 (m : Int))) := (Keep.refl _ _).set1 _ _
        have hset2 := own_setL (l := m) HH5.out.row (by rw [List.length_set]; exact HJK.out) (fun h => h.2.2 rfl)
        rw [List.set_set, List.getElem_set_self] at hset2
        have hXc : ({ (midC kk cs j)[j]'HJK.out with b := cs[j].b.take m, l := m } : DC) = crashC kk cs[j] := by rw [HCX.out, HGX.out]
        have hH6 := hid (show RdAt (w5.setCell ⟨g, j * 3 + 2, none⟩ (.int .i64 (m : Int))) B r (midC kk cs (j + 1)) s (.slice (some ⟨g, 0, none⟩) n c) dead from HH5.out.setRow hks2 (by rw [← HNX.out, ← hXc]; exact hset2))
        have hK6 := hid (HK5.out.trans hks2 fun k _ e => by subst e; exact HNF.out.1)
        clear hks2 hset2 hXc
        go_wp2
        go_roundw
        case rel => exact ⟨j + 1, by omega, by go_num, hH6.out, hK6.out⟩
        case measure => simp only [intOf]; omega
    · obtain rfl : j = n := by omega
      have hjX : ¬ (j : Int) < j := by omega
      have hz := hat.blk.frozen
      clear hat hlt
      go_wp2
      go_end0
      have e0 : midC kk cs j = cs.map (crashC kk) := HMN.out
      rw [HKK.out, ← e0]
      have hks : Keep (· = r) wr (((wr.setCell ⟨r, 2, none⟩ (.bool false)).setCell ⟨r, 3, none⟩ (.int .i64 (-1))).setCell ⟨r, 4, none⟩ (.bool false)) := (((Keep.refl (· = r) wr).set1 2 _).set1 3 _).set1 4 _
      refine ⟨rfl, ⟨_, false, HAT.out.own, ?_, HAT.out.row.keep EFl.ok hks (fun k hk e => hk.2.1 e) (fun g hg => (HAT.out.ownF g hg).2), HAT.out.ownF, fun h => by simp at h⟩, HKB.out.trans hks fun k _ e => by subst e; exact HAT.out.own⟩
      have := ((HAT.out.blk.set_ 2 (.bool false)).set_ 3 (.int .i64 (-1))).set_ 4 (.bool false)
      simpa using this
end Go.Proofs.Ytikophoopapngaa

/- The reference's disk: Drop. -/
namespace Go.Proofs.Ytikophoopapngaa
open Go.RowKit
set_option linter.unusedVariables false

theorem del_none {nm : List UInt8} {cs : List DC} (h : ∀ c ∈ cs, c.name ≠ nm) : delC cs nm = cs := by
  unfold delC
  rw [List.filter_eq_self]
  intro c hc
  simpa using h c hc
theorem del_at {nm : List UInt8} : ∀ {cs : List DC} {k : Nat} (hk : k < cs.length), cs.Pairwise (fun x y => x.name ≠ y.name) → (cs[k]'hk).name = nm → delC cs nm = cs.take k ++ cs.drop (k + 1)
  | c :: r, 0, _, hp, e => by
    have e : c.name = nm := e
    obtain ⟨h1, _⟩ := List.pairwise_cons.1 hp
    have := del_none (cs := r) (nm := nm) fun y hy hyn => h1 y hy (e.trans hyn.symm)
    unfold delC at this ⊢
    rw [List.filter_cons, if_neg (by simp [e]), this]
    simp
  | c :: r, k + 1, hk, hp, e => by
    obtain ⟨h1, h2⟩ := List.pairwise_cons.1 hp
    have hk' : k < r.length := by simpa using hk
    have e' : (r[k]'hk').name = nm := by simpa using e
    have hne : c.name ≠ nm := fun h => h1 _ (List.getElem_mem hk') (h.trans e'.symm)
    have ih := del_at hk' h2 e'
    unfold delC at ih ⊢
    rw [List.filter_cons, if_pos (by simpa using hne), ih]
    simp
theorem own_low {α : Type} {E : El α} {w : World} {base : Nat} {T : TypeId} {S : BS} {v : Value} {xs : List α} (h : Own E w base T S v xs) : Own E w 0 T S v xs := h.elim .inl fun ⟨g, c, cur, e, _, q⟩ => .inr ⟨g, c, cur, e, Nat.zero_le _, q⟩
set_option maxHeartbeats 6400000 in
theorem ref_drop (w : World) (B : BS) (r : Nat) (cs : List DC) (s : DSt) (name : ByteArray) (hc : cs.length ≤ 64) (hl : -1 ≤ s.left ∧ s.left ≤ 9223372036854775807) (hp : cs.Pairwise fun x y => x.name ≠ y.name) (h : RdIs w B r cs s) :
    Calls Try.prog 38 #[.pointer (some ⟨r, 0, none⟩), .string name] w (RRes w B r s (dropR cs s name.data.toList)) := by
  have HC := hid (ref_call w B r cs s hl h)
  obtain ⟨F0, dead0, h0⟩ := h
  have hB := h0.own
  obtain ⟨g, hg⟩ : ∃ g, goesC s.left = g := ⟨_, rfl⟩
  have HG := hid hg
  have HP := hid hp
  clear h0 hl hg hp
  go_enter Try.func38, Try.ntmps38
  go_wp2_with fail
  refine HC.out.mono ?_
  rw [HG.out]
  rintro e wz ⟨rfl, hr, hk⟩
  have HR := hid hr
  have HK := hid (show Keep B w wz from hk.mono fun k _ e => by subst e; exact hB)
  clear hr hk HC hB
  cases g with
  | false =>
    have HE := hid (show dropR cs s name.data.toList = (130, cs) by rw [dropR, if_pos HG.out])
    go_wp2
    go_ret
    unfold RRes
    rw [HE.out]
    exact ⟨rfl, HR.out.moreB, HK.out⟩
  | true =>
    go_wp2_with fail
    refine (ref_find wz B r cs _ name HR.out).mono ?_
    rcases find_cases cs name.data.toList with ⟨hz, hf, hh⟩ | ⟨k, hk, hz, hf, hn, hh⟩
    · rw [hz]
      have HE := hid (show dropR cs s name.data.toList = (131, cs) by rw [dropR, if_neg (by simp [HG.out]), if_neg (by simp [hh])])
      clear hz hf hh
      rintro e w1 ⟨rfl, rfl⟩
      go_wp2
      go_ret
      unfold RRes
      rw [HE.out]
      exact ⟨rfl, HR.out.moreB, HK.out⟩
    · rw [hz]
      have HE := hid (show dropR cs s name.data.toList = (0, cs.take k ++ cs.drop (k + 1)) by rw [dropR, if_neg (by simp [HG.out]), if_pos hh, del_at hk HP.out hn])
      have HE := HE
      obtain ⟨F, dead, h⟩ := HR.out
      obtain ⟨_, c1, _, _, _⟩ := h.cells
      have hs := h.row.sl EFl.ok
      obtain ⟨A, c, rfl, hlc, hcm⟩ := h.row.shape
      unfold maxLen at hcm
      obtain ⟨hf1, hs1⟩ := front_fact (P := Try.prog) EFl.ok ty_fl hs (b := (k : Int)) rfl (by omega)
      obtain ⟨k1, hk1⟩ : ∃ k1 : Nat, k + 1 = k1 := ⟨_, rfl⟩
      obtain ⟨A', hf2, hs2⟩ := tail_fact (P := Try.prog) EFl.ok ty_fl hs (a := (k1 : Int)) rfl (by omega)
      have HS1 := hid (hs1.more (S' := fun q => (B q ∧ q ≠ r) ∧ q < wz.heap.size) EFl.ok fun q hq e => ⟨e.elim (fun e => ⟨e.1, e.2.1⟩) (fun e => h.ownF q e), hq⟩)
      have HS2 := hid (hs2.more (S' := fun q => (B q ∧ q ≠ r) ∧ q < wz.heap.size) EFl.ok fun q hq e => ⟨e.elim (fun e => ⟨e.1, e.2.1⟩) (fun e => h.ownF q e), hq⟩)
      generalize hpp : cs.length - k1 = p at *
      generalize c - k1 = c' at *
      have HPP := hid hpp
      clear hpp
      have hz := h.blk.frozen
      have hrl := h.blk.lt
      have HH := hid h
      have hkX : (k : Int) < cs.length := by omega
      have ew : IntKind.i64.wrap ((k : Int) + 1) = (k1 : Int) := by rw [IntKind.wrap_i64]; omega
      have HK1 := hid hk1
      have HRL := hid hrl
      have HKK := hid hk
      clear h hs hs1 hs2 hn hh hf hz hrl hk1
      generalize hcl : cs.length = n at *
      have HCL := hid hcl
      clear hcl
      rintro e w1 ⟨rfl, rfl⟩
      go_wp2_with (at_builtin; refine wpList_own_append (v := .slice none 0 0) (y := .slice A k c) wz rfl (.tmp 17) (.tmp 23) EFl.ok ty_fl rfl rfl rfl (Own.nil _ wz.heap.size _ (fun _ => False)) HS1.out (fun g hg => by simp [Value.ownBlock] at hg) ?c1 ?c2 (Nat.le_refl _) ?_)
      case c1 => simp; have := HCL.out; omega
      case c2 => simp; have := HCL.out; unfold maxLen; omega
      intro v1 wa hown1 hka _
      have hea : Ext wz wa := hka.mono fun k _ h => by simp [Value.ownBlock] at h
      have c1a := (hea.cell (lt_of_cell c1) id).trans c1
      have HO1 := hid hown1
      have HEA := hid hea
      have HS3 := hid (HS2.out.ext EFl.ok hea)
      clear c1 hown1 hka hea hf1
      go_wp2_with (at_builtin; refine wpList_own_append (v := v1) (y := .slice A' p c') wa rfl (.tmp 25) (.tmp 32) EFl.ok ty_fl rfl rfl rfl HO1.out HS3.out ?g1 ?c1 ?c2 HEA.out.size ?_)
      case g1 => intro q hq; have := (HO1.out.lt hq).1; exact ⟨fun h => by have := h.2; omega, fun h => by have := h.2; omega⟩
      case c1 => simp only [List.length_take, List.length_drop]; have := HCL.out; omega
      case c2 => simp only [List.length_take, List.length_drop]; have := HCL.out; unfold maxLen; omega
      intro v2 wb hown2 hkb _
      have heb : Ext wz wb := HEA.out.trans hkb fun q hq e => by have := (HO1.out.lt e).1; omega
      obtain ⟨A2, c2, rfl, _, _⟩ := hown2.shape
      have HO2 := hid hown2
      generalize (List.take k cs ++ List.drop k1 cs).length = n2 at *
      have HEB := hid heb
      have hz := (HH.out.blk.keep heb id).frozen
      have c1b := (heb.cell (lt_of_cell HH.out.cells.2.1) id).trans HH.out.cells.2.1
      clear c1a hown2 hkb heb hf2
      go_wp2
      go_ret
      unfold RRes
      rw [HE.out, HK1.out]
      have hks : Keep (· = r) wb (wb.setCell ⟨r, 1, none⟩ (.slice A2 n2 c2)) := (Keep.refl _ _).set1 _ _
      have hkw : Keep B w (wb.setCell ⟨r, 1, none⟩ (.slice A2 n2 c2)) := (HK.out.ext HEB.out).trans hks fun q _ e => by subst e; exact HH.out.own
      have hbl := (HH.out.blk.keep HEB.out id).set_ 1 (.slice A2 n2 c2)
      refine ⟨rfl, ⟨.slice A2 n2 c2, dead, .inl HH.out.own, by simpa using hbl, ?_, ?_, HH.out.dead⟩, hkw⟩
      · refine (own_low (HO2.out.keep EFl.ok hks (fun q hq e => ?_) (fun q hq e => ?_))).more EFl.ok fun q hq h => ?_
        · exact hq.1.2 e
        · have := (HO2.out.lt hq).1; have := HRL.out; omega
        · exact ⟨.inl h.1.1, h.1.2, fun e => by have := (HO2.out.lt e).1; have := h.2; omega⟩
      · intro q hq
        have h1 := HO2.out.lt hq
        have h2 := HK.out.size
        have h3 := HRL.out
        have h4 := hks.size
        exact ⟨.inr ⟨by omega, by omega⟩, by omega⟩
end Go.Proofs.Ytikophoopapngaa

/- The reference's disk: Names. -/
namespace Go.Proofs.Ytikophoopapngaa
open Go.RowKit
set_option linter.unusedVariables false

def texC (cs : List DC) : List ByteArray := cs.map fun c => textOf c.name
theorem ty_strsR : TyInfo Try.prog 43 9 1 16 := by
  obtain ⟨i, h1, h2, h3, h4⟩ := info_parts (show (Try.prog.info? 9).map (fun i => (i.zero, i.size, i.bytes)) = some (some (.string ⟨#[]⟩), 1, 16) from by kernel_rfl)
  exact ⟨Try.underlying43, i, _, h1, h2, h3, h4, rfl⟩
set_option maxHeartbeats 3200000 in
theorem ref_names (w : World) (B : BS) (r : Nat) (cs : List DC) (s : DSt) (hc : cs.length ≤ 64) (h : RdIs w B r cs s) :
    Calls Try.prog 45 #[.pointer (some ⟨r, 0, none⟩)] w fun e w' => ∃ v, e = .returned v ∧ Sl EStr w' (fun q => w.heap.size ≤ q) v (texC cs) ∧ Ext w w' := by
  obtain ⟨F, dead, h⟩ := h
  obtain ⟨_, c1, _, _, _⟩ := h.cells
  have hs := h.row.sl EFl.ok
  obtain ⟨A, c, rfl, hlc, hcm⟩ := hs.shape
  unfold maxLen at hcm
  have HS := hid hs
  have hte : texC (cs.take cs.length) = texC cs := by rw [List.take_length]
  have HTE := hid hte
  have HRB := hid h.blk.lt
  clear h hs hte
  generalize hn : cs.length = n at *
  have HN := hid hn
  have C1 := hid c1
  clear hn
  go_enter Try.func45, Try.ntmps45
  go_wp2_with fail
  clear c1
  go_loopw [3, 4] (fun x y wr => ∃ (j : Nat), j ≤ n ∧ y = .int .i64 j ∧ Own EStr wr w.heap.size 9 (fun _ => False) x (texC (cs.take j)) ∧ Ext w wr) (fun _ y _ => n - (intOf y).toNat)
  case atStart => exact ⟨0, by omega, rfl, Own.nil _ _ _ _, Keep.refl _ _⟩
  case round =>
    obtain ⟨j, hj, rfl, hown, hr⟩ := hrel
    obtain ⟨A4, c4, rfl, hl4, hc4⟩ := hown.shape
    have x1 := (hr.cell (lt_of_cell C1.out) id).trans C1.out
    have HOW := hid hown
    have HR := hid hr
    by_cases hlt : j < n
    · have hjm : j < cs.length := by rw [HN.out]; exact hlt
      obtain ⟨b1, f1, d1, rfl, _, _, ⟨bv, rfl, _⟩, hcell⟩ := (HS.out.ext EFl.ok hr).at_ EFl.ok hjm
      have e0 := hcell 0 _ rfl
      have e3 : EFl.size = 3 := rfl
      simp only [e3, Nat.add_zero] at e0
      have HTS := hid (show texC (cs.take (j + 1)) = texC (cs.take j) ++ [textOf cs[j].name] by unfold texC; rw [List.take_succ_eq_append_getElem hjm, List.map_append]; rfl)
      have hjX : (j : Int) < n := by omega
      clear hown hr hcell e3
      generalize textOf cs[j].name = y at *
      have hst : Ext wr (wr.alloc (.cells #[.string y] 9)) := (Keep.refl _ _).alloc _
      have HOb := hid (HOW.out.ext EStr.ok hst)
      have HRx := hid (RowS.new (w := wr) (t := 9) (sz := 1) (n := 1) (cs := [.string y]) rfl (by simp [maxLen]) (0, 0))
      have HDx := hid (Cells.single (E := EStr) (w := wr.alloc (.cells #[.string y] 9)) (S := fun _ => False) (x := y) (cs := [.string y]) rfl)
      have HST := hid hst
      have HLN := hid (show (texC (cs.take j)).length ≤ j by unfold texC; rw [List.length_map, List.length_take]; omega)
      have HCC := hid hc
      clear hst hl4
      generalize texC (cs.take j) = ks at *
      go_wp2_with (at_builtin; refine wpList_own_append2 (ys := [y]) _ rfl (.tmp 14) (.tmp 23) EStr.ok ty_strsR rfl rfl rfl HOb.out HRx.out HDx.out ?d1 ?d2 ?d3 ?d4 ?_)
      case d1 => exact fun g hg => ⟨fun h => h, fun h => h⟩
      case d2 => have := HLN.out; have := HCC.out; simp only [List.length_singleton]; omega
      case d3 => have := HLN.out; have := HCC.out; simp only [List.length_singleton, maxLen]; omega
      case d4 => exact Nat.le_trans HR.out.size HST.out.size
      intro v' w' hown' hk hb
      obtain ⟨A7, c7, rfl, hl7, hc7⟩ := hown'.shape
      have HK := hid (show Ext w w' from (HR.out.ext HST.out).trans hk fun k hlt e => by
        have := (HOW.out.lt (show (Value.slice A4 ks.length c4).ownBlock = some k from e)).1; omega)
      have HO3 := hid (hown'.more (S' := fun _ => False) EStr.ok fun k _ h => by rcases h with h | h <;> exact h)
      clear hown' hk hb HOb HRx HDx HST
      go_wp2
      exact ⟨⟨j + 1, by omega, by go_num, by rw [HTS.out]; exact HO3.out, HK.out⟩, by simp [intOf]; omega⟩
    · obtain rfl : j = n := by omega
      have hjX : ¬ (j : Int) < j := by omega
      clear hown hr hlt
      go_wp2
      go_ret
      refine ⟨_, rfl, ?_, HR.out⟩
      rw [← HTE.out]
      exact (HOW.out.sl EStr.ok).more EStr.ok fun q _ h => h.elim False.elim fun e => (HOW.out.lt e).1
end Go.Proofs.Ytikophoopapngaa

/- The reference's disk: where a new file stands, in plain Lean. -/
namespace Go.Proofs.Ytikophoopapngaa
open Go.RowKit
set_option linter.unusedVariables false

theorem less_before : ∀ a b : List UInt8, Op.bytesLess a b = bytesBefore a b
  | [], [] => rfl
  | [], _ :: _ => rfl
  | _ :: _, [] => rfl
  | x :: a, y :: b => by simp [Op.bytesLess, bytesBefore, less_before a b]
theorem before_asymm : ∀ {a b : List UInt8}, bytesBefore a b = true → bytesBefore b a = false
  | [], [], _ => rfl
  | [], _ :: _, _ => rfl
  | _ :: _, [], h => by cases h
  | x :: a, y :: b, h => by
    simp only [bytesBefore, Bool.or_eq_true, Bool.and_eq_true, decide_eq_true_eq, beq_iff_eq] at h
    rcases h with h | ⟨rfl, h⟩
    · have h1 : ¬ y < x := by rw [UInt8.lt_iff_toNat_lt] at *; omega
      have h2 : ¬ y = x := by rintro rfl; exact UInt8.lt_irrefl _ h
      simp [bytesBefore, h1, h2]
    · simp [bytesBefore, before_asymm h]
theorem before_other : ∀ {a b : List UInt8}, a ≠ b → bytesBefore a b = false → bytesBefore b a = true
  | [], [], h, _ => absurd rfl h
  | [], _ :: _, _, h => by cases h
  | _ :: _, [], _, _ => rfl
  | x :: a, y :: b, hne, h => by
    simp only [bytesBefore, Bool.or_eq_false_iff, decide_eq_false_iff_not] at h
    obtain ⟨h1, h2⟩ := h
    by_cases he : x = y
    · subst he
      have h3 := before_other (a := a) (b := b) (fun e => hne (by rw [e])) (by simpa using h2)
      simp [bytesBefore, h3]
    · have h4 : y < x := by
        rw [UInt8.lt_iff_toNat_lt] at *
        have : x.toNat ≠ y.toNat := fun e => he (UInt8.toNat_inj.1 e)
        omega
      simp [bytesBefore, h4]
theorem insC_at {x : DC} : ∀ {cs : List DC} {p : Nat}, p ≤ cs.length → (∀ i (hi : i < cs.length), i < p → bytesBefore (cs[i]'hi).name x.name = true) → (∀ h : p < cs.length, bytesBefore (cs[p]'h).name x.name = false) → (∀ c ∈ cs, c.name ≠ x.name) → insC x cs = cs.take p ++ x :: cs.drop p
  | [], p, hp, _, _, _ => by
    obtain rfl : p = 0 := by simpa using hp
    rfl
  | c :: r, 0, _, _, h2, hne => by
    have h := h2 (by simp)
    have h : bytesBefore c.name x.name = false := h
    rw [insC, if_pos (before_other (hne c (by simp)) h)]; rfl
  | c :: r, p + 1, hp, h1, h2, hne => by
    have h : bytesBefore c.name x.name = true := h1 0 (by simp) (by omega)
    rw [insC, if_neg (by rw [before_asymm h]; simp), insC_at (p := p) (by simpa using hp) (fun i hi hip => h1 (i + 1) (by simpa using hi) (by omega)) (fun h => h2 (by simpa using h)) (fun c hc => hne c (by simp [hc]))]
    rfl
/-- A file put in, then its bytes laid. -/
theorem ins_set {cs : List DC} {nm b : List UInt8} {p : Nat} (hp : p ≤ cs.length) : (cs.take p ++ ⟨nm, [], 0⟩ :: cs.drop p).set p ⟨nm, b, 0⟩ = cs.take p ++ ⟨nm, b, 0⟩ :: cs.drop p := by
  have h1 : (cs.take p).length = p := by rw [List.length_take]; omega
  rw [List.set_append_right _ _ (by omega), h1, Nat.sub_self]
  rfl
theorem insC_swap {nm b : List UInt8} {cs : List DC} {p : Nat} (hp : p ≤ cs.length) (h1 : ∀ i (hi : i < cs.length), i < p → Op.bytesLess (cs[i]'hi).name nm = true) (h2 : ∀ h : p < cs.length, Op.bytesLess (cs[p]'h).name nm = false) (hne : hasC cs nm = false) :
    insC ⟨nm, b, 0⟩ cs = (cs.take p ++ ⟨nm, [], 0⟩ :: cs.drop p).set p ⟨nm, b, 0⟩ := by
  rw [ins_set hp]
  refine insC_at hp (fun i hi hip => by rw [← less_before]; exact h1 i hi hip) (fun h => by rw [← less_before]; exact h2 h) fun c hc e => ?_
  unfold hasC at hne
  rw [List.any_eq_false] at hne
  exact hne c hc (by simpa using e)
theorem ins_len {cs : List DC} {x : DC} {p : Nat} (hp : p ≤ cs.length) : (cs.take p ++ x :: cs.drop p).length = cs.length + 1 := by simp; omega
theorem ins_get {cs : List DC} {x : DC} {p : Nat} (hp : p ≤ cs.length) : (cs.take p ++ x :: cs.drop p)[p]'(by rw [ins_len hp]; omega) = x := by
  have h1 : (cs.take p).length = p := by rw [List.length_take]; omega
  rw [List.getElem_append_right (by omega)]
  simp [h1]
end Go.Proofs.Ytikophoopapngaa
