/- The reference of chapter 05: Do, moved. -/
import Derived.Test.YtimhfkllamimeaaSeqRI
import Derived.Test.YtimhfkllamimeaaGrowThree
set_option linter.unusedSimpArgs false
set_option linter.unusedVariables false
namespace Go.Proofs.Ytimhfkllamimeaa
open Go.RowKit

set_option maxRecDepth 100000 in
set_option maxHeartbeats 6400000 in
theorem rdo_7 (xs ys : List V) (S : BS) (lv : Value) (i j : Int) (vk : UInt8) (vn : Int) (w : World) (hl : Sl EVal w S lv xs) (hf : Flat xs) (hn : xs.length ≤ 100000) (hd : doL xs ⟨7, i, j, nV vk vn⟩ = some ys) :
    Calls Try.prog 17 #[lv, .agg (cmCells 7 i j vk vn).toArray] w (RDoIs w ys) := by
  have hck : checkL xs.length 7 i j = 0 := by
    by_cases hk : checkL xs.length 7 i j = 0
    · exact hk
    · unfold doL at hd; rw [if_neg hk] at hd; cases hd
  have hck2 := check_ok hck
  have hb : Blk (w.alloc (.cells (cmCells 7 i j vk vn).toArray TCOMP)) w.heap.size TCOMP (cmCells 7 i j vk vn).toArray := Blk.new _ _ _
  have hE1 : Ext w (w.alloc (.cells (cmCells 7 i j vk vn).toArray TCOMP)) := (Keep.refl _ _).alloc _
  obtain ⟨A, c, rfl, hlc, hcm⟩ := hl.shape
  have HB := hid hb
  have HE := hid hE1
  have HL := hid hl
  have HF := hid hf
  have HN := hid hn
  have HCK := hid hck
  have HC2 := hid hck2
  have HD := hid hd
  clear hb hE1 hl hf hn hck hck2 hd hcm
  simp only [cmCells]
  go_enter Try.func17, Try.ntmps17
  go_wp2_with fail
  change Calls _ _ _ (w.alloc (.cells (cmCells 7 i j vk vn).toArray TCOMP)) _
  generalize (w.alloc (.cells (cmCells 7 i j vk vn).toArray TCOMP)) = w0 at *
  refine (rcheck_any xs.length 7 _ _ _ _ _ _ _ _ _ i j w0 (by have := HN.out; omega)).mono ?_
  rintro e w1 ⟨rfl, hT⟩
  rw [HCK.out]
  have hb := HB.out.keep hT id
  have HL1 := hid (HL.out.ext EVal.ok (HE.out.ext hT))
  replace HE := hid (HE.out.ext hT)
  replace HB := hid hb
  have b0 := hb.cell 0
  have b1 := hb.cell 1
  have b2 := hb.cell 2
  have b3 := hb.cell 3
  have b4 := hb.cell 4
  have b5 := hb.cell 5
  have b6 := hb.cell 6
  have b7 := hb.cell 7
  have b8 := hb.cell 8
  have b9 := hb.cell 9
  have b10 := hb.cell 10
  have b11 := hb.cell 11
  simp [cmCells] at b0 b1 b2 b3 b4 b5 b6 b7 b8 b9 b10 b11
  clear hb hT HL
  go_wp2_with fail
  refine (rcopy_list xs _ S w1 HL1.out HN.out HF.out).mono ?_
  rintro e w2 ⟨v2, rfl, ho2, _, hE2⟩
  obtain ⟨A2, c2, rfl, hl2, hc2⟩ := ho2.shape
  have HO := hid ho2
  have hz2 := hE2.size
  have HZ := hid (show w.heap.size ≤ w1.heap.size from HE.out.size)
  replace HE := hid (HE.out.ext hE2)
  replace b0 := (hE2.cell (lt_of_cell b0) id).trans b0
  replace b1 := (hE2.cell (lt_of_cell b1) id).trans b1
  replace b2 := (hE2.cell (lt_of_cell b2) id).trans b2
  replace b3 := (hE2.cell (lt_of_cell b3) id).trans b3
  replace b4 := (hE2.cell (lt_of_cell b4) id).trans b4
  replace b5 := (hE2.cell (lt_of_cell b5) id).trans b5
  replace b6 := (hE2.cell (lt_of_cell b6) id).trans b6
  replace b7 := (hE2.cell (lt_of_cell b7) id).trans b7
  replace b8 := (hE2.cell (lt_of_cell b8) id).trans b8
  replace b9 := (hE2.cell (lt_of_cell b9) id).trans b9
  replace b10 := (hE2.cell (lt_of_cell b10) id).trans b10
  replace b11 := (hE2.cell (lt_of_cell b11) id).trans b11
  clear ho2 hE2 HL1
  go_wp2_with fail
  simp only [run_field_l]
  go_wp2_with fail
  refine (rcopy_leaf vk vn _ (fun _ => True) w2 ⟨_, _, rfl, Sl.nil _ _, Sl.nil _ _⟩).mono ?_
  rintro e w3 ⟨rfl, hE3⟩
  have hE4 : Ext w2 (w3.alloc (.cells #[U8 vk, .int .i64 vn, .string ⟨#[]⟩, .slice none 0 0, .slice none 0 0] TVAL)) := hE3.alloc _
  have HO4 := hid (HO.out.ext EVal.ok hE4)
  have HO3 := hid (HO.out.ext EVal.ok hE3)
  have hlb : w.heap.size < w3.heap.size := by have := lt_of_cell b0; have := hE3.size; simp only at *; omega
  replace b0 := (hE3.cell (lt_of_cell b0) id).trans b0
  replace b1 := (hE3.cell (lt_of_cell b1) id).trans b1
  replace b2 := (hE3.cell (lt_of_cell b2) id).trans b2
  replace b3 := (hE3.cell (lt_of_cell b3) id).trans b3
  replace b4 := (hE3.cell (lt_of_cell b4) id).trans b4
  replace b5 := (hE3.cell (lt_of_cell b5) id).trans b5
  replace b6 := (hE3.cell (lt_of_cell b6) id).trans b6
  replace b7 := (hE3.cell (lt_of_cell b7) id).trans b7
  replace b8 := (hE3.cell (lt_of_cell b8) id).trans b8
  replace b9 := (hE3.cell (lt_of_cell b9) id).trans b9
  replace b10 := (hE3.cell (lt_of_cell b10) id).trans b10
  replace b11 := (hE3.cell (lt_of_cell b11) id).trans b11
  have HE3 := hid (HE.out.ext hE3)
  replace HE := hid (HE.out.ext hE4)
  clear hE3 hE4 HO
  obtain ⟨a, rfl, ha⟩ : ∃ a : Nat, i = a ∧ a < xs.length := by
    rcases HC2.out with ⟨h, _⟩ | ⟨h, _⟩ | ⟨h, _⟩ | ⟨_, h1, h2, _⟩
    case inr.inr.inr => exact ⟨i.toNat, by omega, by omega⟩
    all_goals exact absurd h (by decide)
  obtain ⟨d, rfl, hdd⟩ : ∃ d : Nat, j = d ∧ d < xs.length := by
    rcases HC2.out with ⟨h, _⟩ | ⟨h, _⟩ | ⟨h, _⟩ | ⟨_, h1, h2, h3, h4⟩
    case inr.inr.inr => exact ⟨j.toNat, by omega, by omega⟩
    all_goals exact absurd h (by decide)
  obtain ⟨x, hx⟩ : ∃ x, xs[a]? = some x := ⟨xs[a], List.getElem?_eq_getElem ha⟩
  have hys : (xs.eraseIdx a).take d ++ x :: (xs.eraseIdx a).drop d = ys := by
    have h := HD.out
    unfold doL at h
    rw [if_pos HCK.out] at h
    simp only [Int.toNat_natCast] at h
    rw [hx] at h
    simpa using h
  have hel : (xs.eraseIdx a).length = xs.length - 1 := List.length_eraseIdx_of_lt ha
  obtain ⟨g, cap, e, hg1, hg2, _⟩ := HO4.out.form (by omega)
  injection e with e1 _ e3
  subst e1 e3
  obtain ⟨c0, hc0, hcell⟩ := HO4.out.at_ EVal.ok ha
  have hc0 : EVal.rd _ _ c0 x := (List.getElem?_eq_some_iff.1 hx).2 ▸ hc0
  obtain ⟨B1, n1, d1, B2, n2, d2, rfl, _, _, hva⟩ := EVal_cells hc0
  have y0 := hcell 0 _ rfl
  have y1 := hcell 1 _ rfl
  have y2 := hcell 2 _ rfl
  have y3 := hcell 3 _ rfl
  have y4 := hcell 4 _ rfl
  have e5 : EVal.size = 5 := rfl
  rw [e5] at y0 y1 y2 y3 y4
  simp only [Nat.add_zero] at y0
  have hcx1 : xs.length ≤ c2 := hl2
  have haX : (a : Int) < xs.length := by omega
  have HYS := hid hys
  have HA := hid ha
  have HDD := hid hdd
  have HEL := hid hel
  have HC0 := hid (EVal.ok.more hc0 (S' := fun _ => True) fun _ _ _ => trivial)
  have HSL := hid ((HO4.out.sl EVal.ok).more EVal.ok (S' := fun _ => True) fun _ _ _ => trivial)
  have b3 : (w3.alloc (.cells #[U8 vk, .int .i64 vn, .string ⟨#[]⟩, .slice none 0 0, .slice none 0 0] TVAL)).cell? ⟨w.heap.size, 3, none⟩ = some (.int .i64 (a : Int)) := ((Keep.alloc (Keep.refl (fun _ => False) w3) _).cell hlb id).trans b3
  have b4 : (w3.alloc (.cells #[U8 vk, .int .i64 vn, .string ⟨#[]⟩, .slice none 0 0, .slice none 0 0] TVAL)).cell? ⟨w.heap.size, 4, none⟩ = some (.int .i64 (d : Int)) := ((Keep.alloc (Keep.refl (fun _ => False) w3) _).cell hlb id).trans b4
  clear hcell e5 hys HO3 HO4 HE3 hg1 hg2 hva hel HC2
  go_wp2_with fail
  change Code.wp _ _ _ _ (w3.alloc (.cells #[U8 vk, .int .i64 vn, .string ⟨#[]⟩, .slice none 0 0, .slice none 0 0] TVAL))
  generalize (w3.alloc (.cells #[U8 vk, .int .i64 vn, .string ⟨#[]⟩, .slice none 0 0, .slice none 0 0] TVAL)) = w4 at *
  have HCW := hid (fun w' (h : Ext w4 w') => without_ok xs (fun _ => True) (some ⟨g, 0, none⟩) xs.length c2 a w' (HSL.out.ext EVal.ok h) HA.out HN.out)
  refine wp_region_three [0, 1, 4, 6, 7] [2, 3, 5, 8, 9, 10] [11] [12, 13]
    (specOf [(3, fun v w' => SlShape EVal w' (fun _ => True) v (xs.eraseIdx a).length (xs.eraseIdx a))])
    (fun w' => Ext w4 w') ?_ (stableC_ext _) (by kernel_rfl) (by kernel_rfl) (Keep.drew (Keep.refl _ _)) ?_
  · exact stable_cons (fun v w w' h he => h.ext EVal.ok he) stable_nil
  iterate 5
    (try simp only [Act.put, List.setIfInBounds_toArray, List.set_cons_zero, List.set_cons_succ])
    refine pure_run rfl rfl ?_
    apply Exists.intro
    refine ⟨fun w' => ?_, ?_⟩
    · go_simp
      rfl
  refine pure_nil ?_
  iterate 1
    (try simp only [Act.put, List.setIfInBounds_toArray, List.set_cons_zero, List.set_cons_succ])
    refine growP_run rfl rfl rfl ?_
    apply Exists.intro
    refine ⟨fun w' hC hK => ?_, ?_⟩
    · have b3 := (hC.cell (lt_of_cell b3) id).trans b3
      go_simp
      rfl
  (try simp only [Act.put, List.setIfInBounds_toArray, List.set_cons_zero, List.set_cons_succ])
  refine growP_eff rfl rfl rfl (fun w' hC hK => ?_) (fun v3 hv3 => ?_)
  · have hc := HCW.out w' hC
    unfold growAt
    go_simp
    refine grow_call (hc.mono ?_)
    rintro e w'' ⟨u, rfl, h1, h2⟩
    obtain ⟨A5, c5, rfl, _, _⟩ := h1.shape
    exact ⟨_, rfl, h2, A5, c5, rfl, (h1.sl EVal.ok).more EVal.ok fun _ _ _ => trivial⟩
  obtain ⟨_, _, A5, c5, rfl, _⟩ := hv3.head
  iterate 4
    (try simp only [Act.put, List.setIfInBounds_toArray, List.set_cons_zero, List.set_cons_succ])
    refine growP_run rfl rfl rfl ?_
    apply Exists.intro
    refine ⟨fun w' hC hK => ?_, ?_⟩
    · have b3 := (hC.cell (lt_of_cell b3) id).trans b3
      have b4 := (hC.cell (lt_of_cell b4) id).trans b4
      have y0 := (hC.cell (lt_of_cell y0) id).trans y0
      have y1 := (hC.cell (lt_of_cell y1) id).trans y1
      have y2 := (hC.cell (lt_of_cell y2) id).trans y2
      have y3 := (hC.cell (lt_of_cell y3) id).trans y3
      have y4 := (hC.cell (lt_of_cell y4) id).trans y4
      go_simp
      rfl
  refine growP_nil fun w5 hC hK => ?_
  change wpList _ _ _ (_ :: []) _ _
  obtain ⟨A5', c5', e7, hs5⟩ : SlShape EVal w5 (fun _ => True) (.slice A5 (xs.eraseIdx a).length c5) (xs.eraseIdx a).length (xs.eraseIdx a) := hK (3, _) List.mem_cons_self
  have hC : Ext w4 w5 := hC
  have HW := hid (with_ok (xs.eraseIdx a) x (fun _ => True) A5 (xs.eraseIdx a).length c5 d _ _ _ _ _ w5 hs5 (EVal.ok.keep HC0.out hC fun _ _ h => h) (by rw [HEL.out]; omega) (by rw [HEL.out]; have := HN.out; omega))
  rw [HYS.out] at HW
  replace HE := hid (HE.out.ext hC)
  clear hC hK hs5 e7 b3 b4 y0 y1 y2 y3 y4 HCW HC0 HSL hv3
  (try simp only [Act.put, List.setIfInBounds_toArray, List.set_cons_zero, List.set_cons_succ])
  go_wp2_with (go_at_call 35; refine HW.out.mono ?_; rintro e w6 ⟨v6, rfl, ho6, hE6⟩; obtain ⟨A6, c6, rfl, hl6, hc6⟩ := ho6.shape; have HO6 := hid ho6; have HE6 := hid hE6; clear ho6 hE6)
  refine Then.normal ?_
  iterate 2
    (try simp only [Act.put, List.setIfInBounds_toArray, List.set_cons_zero, List.set_cons_succ])
    refine pure_run rfl rfl ?_
    apply Exists.intro
    refine ⟨fun w' => ?_, ?_⟩
    · go_simp
      rfl
  refine pure_nil ?_
  refine NoPanic.normal ?_
  (try simp only [Act.put, List.setIfInBounds_toArray, List.set_cons_zero, List.set_cons_succ])
  go_wp2
  go_ret2
  exact ⟨A6, c6, rfl, (HO6.out.sl EVal.ok).more EVal.ok fun _ _ _ => trivial, HE.out.ext HE6.out⟩
end Go.Proofs.Ytimhfkllamimeaa
