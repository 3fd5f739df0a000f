/- The law SeqTies: its walk. -/
import Derived.Test.YtimhfkllamimeaaSeqV
import Derived.Test.YtimhfkllamimeaaGrowThree
set_option linter.unusedSimpArgs false
set_option linter.unusedVariables false
namespace Go.Proofs.Ytimhfkllamimeaa
open Go.RowKit

set_option maxHeartbeats 6400000 in
theorem ties_walk (a i : Int) (left : Bool) (w : World) (ha : (Lit.int .u8 a).wf = true) (hi : (Lit.int .i64 i).wf = true) :
    Calls Try.prog 10 #[.int .u8 a, .int .i64 i, .bool left] w fun e w' => e = .returned (.bool true) ∧ Below w.heap.size w w' := by
  obtain ⟨n, hn40, em⟩ := rem40 ha
  obtain ⟨i0, hi0, _⟩ := run_max0 i hi
  obtain ⟨p, hp, ep⟩ := tmod_nat i0 (n + 1) (by omega)
  have ep : (i0 : Int).tmod ((n : Int) + 1) = p := by rw [← ep]; congr 1
  have enz : (n : Int) + 1 ≠ 0 := by omega
  have hlen := numsL_len n
  obtain ⟨ys, hd, hy, hget, hget2⟩ := ties_nums n p left hp
  have HF := hid (flat_nums n)
  have HL := hid hlen
  have HD := hid hd
  have HY := hid hy
  have HG := hid hget
  have HG2 := hid hget2
  have HSM := hid (show Sm p from ⟨by omega, by omega⟩)
  clear ha hi hd hy hget hget2
  go_enter Try.func10, Try.ntmps10
  go_wp2_with fail
  refine (law_known _).mono ?_
  rintro e w1 ⟨rfl, hE1⟩
  have HE := hid hE1
  clear hE1
  go_wp2_with fail
  refine (numbers_ok n w1 (by omega)).mono ?_
  rintro e w2 ⟨v, rfl, ho, hE2⟩
  obtain ⟨A, c, rfl, hc1, hc2⟩ := ho.shape
  have HO := hid ((ho.sl EVal.ok).more EVal.ok (S' := fun _ => True) fun _ _ _ => trivial)
  replace HE := hid (HE.out.ext hE2)
  rw [hlen] at hc1 HO ⊢
  clear ho hE2 em
  go_wp2_with fail
  change Code.wp _ _ _ _ ((w2.alloc (.cells (cmCells 4 p 0 2 1).toArray TCOMP)).alloc (.cells (cmCells 4 p 0 2 2).toArray TCOMP))
  have hE3 : Ext w2 ((w2.alloc (.cells (cmCells 4 p 0 2 1).toArray TCOMP)).alloc (.cells (cmCells 4 p 0 2 2).toArray TCOMP)) := ((Keep.refl _ _).alloc _).alloc _
  have hb0 : Blk ((w2.alloc (.cells (cmCells 4 p 0 2 1).toArray TCOMP)).alloc (.cells (cmCells 4 p 0 2 2).toArray TCOMP)) w2.heap.size TCOMP (cmCells 4 p 0 2 1).toArray := (Blk.new _ _ _).alloc _
  have hb1 : Blk ((w2.alloc (.cells (cmCells 4 p 0 2 1).toArray TCOMP)).alloc (.cells (cmCells 4 p 0 2 2).toArray TCOMP)) (w2.heap.size + 1) TCOMP (cmCells 4 p 0 2 2).toArray := by
    have := Blk.new (w2.alloc (.cells (cmCells 4 p 0 2 1).toArray TCOMP)) TCOMP (cmCells 4 p 0 2 2).toArray
    rwa [World.size_alloc] at this
  generalize ((w2.alloc (.cells (cmCells 4 p 0 2 1).toArray TCOMP)).alloc (.cells (cmCells 4 p 0 2 2).toArray TCOMP)) = w3 at *
  have a0 := hb0.cell 0
  have a1 := hb0.cell 1
  have a2 := hb0.cell 2
  have a3 := hb0.cell 3
  have a4 := hb0.cell 4
  have a5 := hb0.cell 5
  have a6 := hb0.cell 6
  have a7 := hb0.cell 7
  have a8 := hb0.cell 8
  have a9 := hb0.cell 9
  have a10 := hb0.cell 10
  have a11 := hb0.cell 11
  simp [cmCells] at a0 a1 a2 a3 a4 a5 a6 a7 a8 a9 a10 a11
  have b0 := hb1.cell 0
  have b1 := hb1.cell 1
  have b2 := hb1.cell 2
  have b3 := hb1.cell 3
  have b4 := hb1.cell 4
  have b5 := hb1.cell 5
  have b6 := hb1.cell 6
  have b7 := hb1.cell 7
  have b8 := hb1.cell 8
  have b9 := hb1.cell 9
  have b10 := hb1.cell 10
  have b11 := hb1.cell 11
  simp [cmCells] at b0 b1 b2 b3 b4 b5 b6 b7 b8 b9 b10 b11
  replace HO := hid (HO.out.ext EVal.ok hE3)
  replace HE := hid (HE.out.ext hE3)
  clear hb0 hb1 hE3
  obtain ⟨cs, hcs⟩ : ∃ cs : List (Cm V), cs = turnC ⟨4, p, 0, nV 2 1⟩ ⟨4, p, 0, nV 2 2⟩ left := ⟨_, rfl⟩
  rw [← hcs] at HD
  have HCS := hid hcs
  clear hcs
  have HCL := hid (show cs.length ≤ 1 from by rw [HCS.out, turnC]; cases turnL 4 p 0 4 p 0 left <;> simp)
  refine wp_region_three [0, 5] [1, 2, 3, 4, 6] [7, 8] [9, 10, 11, 12, 13]
    (specOf [(2, fun v w' => ∃ g, v = .slice (some ⟨g, 0, none⟩) 1 1 ∧ w3.heap.size ≤ g ∧ Blk w' g TCOMP (cmCells 4 p 0 2 2).toArray), (6, fun v w' => SlShape ECm w' (fun q => w3.heap.size ≤ q) v cs.length cs)])
    (fun w' => Ext w3 w') ?_ (stableC_ext _) (by kernel_rfl) (by kernel_rfl) (Keep.drew (Keep.refl _ _)) ?_
  · exact stable_cons (fun v w w' h he => by obtain ⟨g, h1, h2, h3⟩ := h; exact ⟨g, h1, h2, h3.keep he id⟩) (stable_cons (fun v w w' h he => h.ext ECm.ok he) stable_nil)
  iterate 2
    (try simp only [Act.put, List.setIfInBounds_toArray, List.set_cons_zero, List.set_cons_succ])
    refine pure_run rfl rfl ?_
    apply Exists.intro
    refine ⟨fun w' => ?_, ?_⟩
    · go_simp
      rfl
  refine pure_nil ?_
  iterate 1
    (try simp only [Act.put, List.setIfInBounds_toArray, List.set_cons_zero, List.set_cons_succ])
    refine growP_run rfl rfl rfl ?_
    apply Exists.intro
    refine ⟨fun w' hC hK => ?_, ?_⟩
    · have b0 := (hC.cell (lt_of_cell b0) id).trans b0
      have b1 := (hC.cell (lt_of_cell b1) id).trans b1
      have b2 := (hC.cell (lt_of_cell b2) id).trans b2
      have b3 := (hC.cell (lt_of_cell b3) id).trans b3
      have b4 := (hC.cell (lt_of_cell b4) id).trans b4
      have b5 := (hC.cell (lt_of_cell b5) id).trans b5
      have b6 := (hC.cell (lt_of_cell b6) id).trans b6
      have b7 := (hC.cell (lt_of_cell b7) id).trans b7
      have b8 := (hC.cell (lt_of_cell b8) id).trans b8
      have b9 := (hC.cell (lt_of_cell b9) id).trans b9
      have b10 := (hC.cell (lt_of_cell b10) id).trans b10
      have b11 := (hC.cell (lt_of_cell b11) id).trans b11
      go_simp
      rfl
  (try simp only [Act.put, List.setIfInBounds_toArray, List.set_cons_zero, List.set_cons_succ])
  refine growP_eff rfl rfl rfl (fun w' hC hK => ?_) (fun v2 hv2 => ?_)
  · unfold growAt
    go_simp
    exact ⟨(Keep.refl _ _).alloc _, _, rfl, hC.size, Blk.new _ _ _⟩
  obtain ⟨_, _, g, rfl, _⟩ := hv2.head
  iterate 2
    (try simp only [Act.put, List.setIfInBounds_toArray, List.set_cons_zero, List.set_cons_succ])
    refine growP_run rfl rfl rfl ?_
    apply Exists.intro
    refine ⟨fun w' hC hK => ?_, ?_⟩
    · have a0 := (hC.cell (lt_of_cell a0) id).trans a0
      have a1 := (hC.cell (lt_of_cell a1) id).trans a1
      have a2 := (hC.cell (lt_of_cell a2) id).trans a2
      have a3 := (hC.cell (lt_of_cell a3) id).trans a3
      have a4 := (hC.cell (lt_of_cell a4) id).trans a4
      have a5 := (hC.cell (lt_of_cell a5) id).trans a5
      have a6 := (hC.cell (lt_of_cell a6) id).trans a6
      have a7 := (hC.cell (lt_of_cell a7) id).trans a7
      have a8 := (hC.cell (lt_of_cell a8) id).trans a8
      have a9 := (hC.cell (lt_of_cell a9) id).trans a9
      have a10 := (hC.cell (lt_of_cell a10) id).trans a10
      have a11 := (hC.cell (lt_of_cell a11) id).trans a11
      have b0 := (hC.cell (lt_of_cell b0) id).trans b0
      have b1 := (hC.cell (lt_of_cell b1) id).trans b1
      have b2 := (hC.cell (lt_of_cell b2) id).trans b2
      have b3 := (hC.cell (lt_of_cell b3) id).trans b3
      have b4 := (hC.cell (lt_of_cell b4) id).trans b4
      have b5 := (hC.cell (lt_of_cell b5) id).trans b5
      have b6 := (hC.cell (lt_of_cell b6) id).trans b6
      have b7 := (hC.cell (lt_of_cell b7) id).trans b7
      have b8 := (hC.cell (lt_of_cell b8) id).trans b8
      have b9 := (hC.cell (lt_of_cell b9) id).trans b9
      have b10 := (hC.cell (lt_of_cell b10) id).trans b10
      have b11 := (hC.cell (lt_of_cell b11) id).trans b11
      go_simp
      rfl
  (try simp only [Act.put, List.setIfInBounds_toArray, List.set_cons_zero, List.set_cons_succ])
  refine growP_eff rfl rfl rfl (fun w' hC hK => ?_) (fun v6 hv6 => ?_)
  · unfold growAt
    go_simp
    refine grow_call ((turn_any 4 4 _ _ _ _ _ _ _ _ _ _ _ _ _ _ _ _ _ _ p 0 p 0 left w' HSM.out (by decide) HSM.out (by decide)).mono ?_)
    intro e w'' h
    obtain ⟨u, rfl, h1, h2⟩ := comp_sl (w0 := w3) hC.size h
    exact ⟨_, rfl, h1, by rw [HCS.out]; exact h2⟩
  obtain ⟨_, _, A6, d6, rfl, _⟩ := hv6.head
  refine growP_nil fun w4 hC hK => ?_
  change wpList _ _ _ (_ :: _ :: []) _ _
  obtain ⟨g', e2, hg2, hg3⟩ : ∃ g', Value.slice (some ⟨g, 0, none⟩) 1 1 = .slice (some ⟨g', 0, none⟩) 1 1 ∧ w3.heap.size ≤ g' ∧ Blk w4 g' TCOMP (cmCells 4 p 0 2 2).toArray := hK (2, _) (List.mem_cons_of_mem _ List.mem_cons_self)
  obtain rfl : g = g' := by injection e2 with e2; injection e2 with e2; injection e2
  obtain ⟨A6', d6', e6, hs6⟩ : SlShape ECm w4 (fun q => w3.heap.size ≤ q) (.slice A6 cs.length d6) cs.length cs := hK (6, _) List.mem_cons_self
  have hC : Ext w3 w4 := hC
  have HO4 := hid (own_one_cm (base := w3.heap.size) hg2 hg3)
  obtain ⟨ds, hrow, hds⟩ := hs6
  have HR := hid hrow
  have HDS := hid (show Cells ECm w4 (fun _ => False) ds cs from cm_flat hds)
  have hz := hC.size
  have HC4 := hid hC
  clear hK hC e2 hg2 hg3 e6 hds hrow
  (try simp only [Act.put, List.setIfInBounds_toArray, List.set_cons_zero, List.set_cons_succ])
  refine wpList_own_append2 (ys := cs) _ rfl (.tmp 34) (.tmp 38) ECm.ok ty_cmp rfl rfl rfl HO4.out HR.out HDS.out ?c1 ?c2 ?c3 ?c4 ?_
  case c1 => exact fun _ _ => ⟨id, id⟩
  case c2 => have := HCL.out; simp; omega
  case c3 => have := HCL.out; simp [maxLen]; omega
  case c4 => exact hz
  intro v' w5 hown' hk hb
  obtain ⟨A5, c5, rfl, hl5, hc5⟩ := hown'.shape
  have hk2 : Ext w3 w5 := Keep.trans (show Ext w3 w4 from HC4.out) hk (fun k hlt e => by have := (HO4.out.lt e).1; omega)
  have HO5 := hid (HO.out.ext EVal.ok hk2)
  have HM := hid (done_ok (numsL n) ys (⟨4, p, 0, nV 2 2⟩ :: cs) _ _ _ _ w5 HO5.out (hown'.sl ECm.ok) HF.out (by have := HCL.out; rw [HL.out, List.length_cons]; omega) HD.out)
  replace HE := hid (HE.out.ext hk2)
  clear a0 a1 a2 a3 a4 a5 a6 a7 a8 a9 a10 a11 b0 b1 b2 b3 b4 b5 b6 b7 b8 b9 b10 b11 hown' hk hk2 hb hv2 hv6 HO4 HR HDS HO HD
  rw [show ([⟨4, p, 0, nV 2 2⟩] ++ cs : List (Cm V)) = ⟨4, p, 0, nV 2 2⟩ :: cs from rfl] at *
  go_wp2_with (go_at_call 27; refine HM.out.mono ?_; rintro e w6 ⟨A7, c7, rfl, hl7, hE7⟩; rw [HY.out] at hl7 ⊢; have HL7 := hid hl7; have HE7 := hid (HE.out.ext hE7); clear hl7 hE7)
  refine Then.normal ?_
  clear HM HE
  iterate 5
    (try simp only [Act.put, List.setIfInBounds_toArray, List.set_cons_zero, List.set_cons_succ])
    refine pure_run rfl rfl ?_
    apply Exists.intro
    refine ⟨fun w' => ?_, ?_⟩
    · go_simp
      rfl
  refine pure_nil ?_
  refine NoPanic.normal ?_
  (try simp only [Act.put, List.setIfInBounds_toArray, List.set_cons_zero, List.set_cons_succ])
  obtain ⟨b1, f1, d1, rfl, _, _, hr1, hc1'⟩ := HL7.out.at_ EVal.ok (k := p) (by rw [HY.out]; omega)
  obtain ⟨b2, f2, d2, e8, _, _, hr2, hc2'⟩ := HL7.out.at_ EVal.ok (k := p + 1) (by rw [HY.out]; omega)
  simp at e8
  obtain ⟨rfl, rfl⟩ := e8
  obtain ⟨_, _, e1, _⟩ := rdV_iff.1 hr1
  obtain ⟨_, _, e2, _⟩ := rdV_iff.1 hr2
  have x1 := hc1' 1 _ (by rw [e1]; rfl)
  have x2 := hc2' 1 _ (by rw [e2]; rfl)
  rw [show ys[p]'(by rw [HY.out]; omega) = nV 2 (if left then 1 else 2) from (List.getElem?_eq_some_iff.1 HG.out).2] at x1
  rw [show ys[p + 1]'(by rw [HY.out]; omega) = nV 2 (if left then 2 else 1) from (List.getElem?_eq_some_iff.1 HG2.out).2] at x2
  have x1 : w6.cell? ⟨b1, f1 + p * 5 + 1, none⟩ = some (.int .i64 (if left then 1 else 2)) := x1
  have x2 : w6.cell? ⟨b1, f1 + (p + 1) * 5 + 1, none⟩ = some (.int .i64 (if left then 2 else 1)) := x2
  have hpX : (p : Int) < n + 2 := by omega
  have hpX2 : (p : Int) + 1 < n + 2 := by omega
  clear e1 e2 hr1 hr2 hc1' hc2'
  cases left
  all_goals
    simp only [Bool.false_eq_true, if_true, if_false] at x1 x2
    go_wp2
    go_ret
    exact ⟨rfl, HE7.out.toBelow⟩
end Go.Proofs.Ytimhfkllamimeaa
