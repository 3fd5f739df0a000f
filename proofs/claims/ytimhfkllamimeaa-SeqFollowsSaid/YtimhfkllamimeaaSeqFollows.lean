/- The law SeqFollows: its walk. -/
import Derived.Test.YtimhfkllamimeaaSeqFoll0
set_option linter.unusedSimpArgs false
set_option linter.unusedVariables false
namespace Go.Proofs.Ytimhfkllamimeaa
open Go.RowKit

set_option maxHeartbeats 12800000 in
theorem follows_walk (a : Int) (x1 : Array Value) (ct : LCut) (i : Int) (w : World) (ha : (Lit.int .u8 a).wf = true) (hx : ECut.rd w (fun k => k < w.heap.size) x1.toList ct) (ho : CutOk ct) (hi : (Lit.int .i64 i).wf = true) :
    Calls Try.prog 7 #[.int .u8 a, .agg x1, .int .i64 i] w fun e w' => e = .returned (.bool true) ∧ Below w.heap.size w w' := by
  rw [cut_cells hx]
  obtain ⟨q1, p1, r1, m1⟩ := ct
  have hp1 := ho.1
  have hr1 := ho.2.1
  clear ho hx
  simp only at hp1 hr1 ⊢
  obtain ⟨m, hm, em⟩ := rem40 ha
  obtain ⟨i0, hi0, _⟩ := run_max0 i hi
  obtain ⟨p, hp, ep⟩ := tmod_nat i0 (m + 1) (by omega)
  have HEN := hid (show 1 + (m : Int) = ((m + 1 : Nat) : Int) from by omega)
  have enz : ((m + 1 : Nat) : Int) ≠ 0 := by omega
  have hlen := numsL_len (m + 1)
  have hn40 : m + 1 ≤ 40 := hm
  have HPN := hid (show (numsL (m + 1))[p]? = some (nV 2 (1000 + (p : Int))) from by simp [numsL, hp])
  generalize m + 1 = n at *
  have HF := hid (flat_nums n)
  have HL := hid hlen
  have HI1 := hid (fun w' => in_ok q1 p1 r1 m1 n w' (by omega) hp1 hr1)
  clear ha hp1 hr1 hi
  have HEW := hid (show Ext w (w.alloc (.cells #[U8 q1, .int .i64 p1, .int .i64 r1, .int .i64 m1] 35)) from (Keep.refl _ _).alloc _)
  have HC0 := hid (Blk.new w 35 #[U8 q1, .int .i64 p1, .int .i64 r1, .int .i64 m1])
  go_enter Try.func7, Try.ntmps7
  go_wp2_with fail
  refine (law_known _).mono ?_
  rintro e w1 ⟨rfl, hE1⟩
  have HE := hid (HEW.out.ext hE1)
  have hC0 := HC0.out.keep hE1 id
  have e0 := hC0.cell 0
  have e1 := hC0.cell 1
  have e2 := hC0.cell 2
  have e3 := hC0.cell 3
  simp at e0 e1 e2 e3
  clear hE1 HEW HC0 hC0
  go_wp2_with fail
  rw [HEN.out]
  refine (numbers_ok n w1 (by omega)).mono ?_
  rintro e w2 ⟨v, rfl, ho, hE2⟩
  obtain ⟨A, c, rfl, hc1, hc2⟩ := ho.shape
  have HO := hid ((ho.sl EVal.ok).more EVal.ok (S' := fun _ => True) fun _ _ _ => trivial)
  replace HE := hid (HE.out.ext hE2)
  replace e0 := (hE2.cell (lt_of_cell e0) id).trans e0
  replace e1 := (hE2.cell (lt_of_cell e1) id).trans e1
  replace e2 := (hE2.cell (lt_of_cell e2) id).trans e2
  replace e3 := (hE2.cell (lt_of_cell e3) id).trans e3
  rw [hlen] at hc1 HO ⊢
  clear ho hE2 em HEN hm
  go_wp2_with fail
  refine (HI1.out _).mono ?_
  rintro e w3 ⟨⟨k1, i1, j1, vk1, vn1, rfl, hck1, hi1, hi1', hj1, hj1'⟩, hE3⟩
  replace HO := hid (HO.out.ext EVal.ok hE3)
  replace HE := hid (HE.out.ext hE3)
  clear hE3 HI1 e0 e1 e2 e3
  obtain ⟨ys, hd, hy, hg⟩ := do_nums n k1 i1 j1 vk1 hck1
  obtain ⟨hpl, hpl2, hpl3, hpl4⟩ := pl_ok hck1 (k := p) (by omega)
  have HD := hid hd
  have HY := hid hy
  have HG := hid hg
  have S1 := hid (show Sm i1 from ⟨by omega, by omega⟩)
  have S2 := hid (show Sm j1 from ⟨by omega, by omega⟩)
  have S3 := hid (show Sm (p : Int) from ⟨by omega, by omega⟩)
  rw [← hy] at hpl hpl2
  have HPL := hid hpl
  have HPL2 := hid hpl2
  have HPL3 := hid hpl3
  have HPL4 := hid hpl4
  have HYL := hid (show ys.length ≤ 41 from by
    have hd : dlen k1 ≤ 1 := by unfold dlen; split; omega; split <;> omega
    omega)
  clear hd hy hg hpl hpl2 hpl3 hpl4 hck1 hi1 hi1' hj1 hj1'
  simp only [cmCells]
  have HDO := hid (fun w' hO => do_any (numsL n) ys (fun _ => True) (.slice A n c) k1 i1 j1 vk1 5 w' hO HF.out (by rw [HL.out]; omega) HD.out)
  have HAT := hid (fun w' => at_any k1 (.slice none 0 0) (.string ⟨#[]⟩) (.int .i64 0) (U8 vk1) (.int .i64 5) (.string ⟨#[]⟩) (.slice none 0 0) (.slice none 0 0) (.string ⟨#[]⟩) i1 j1 p w' S3.out S1.out S2.out)
  clear HD S1 S2 S3
  go_wp2_with fail
  have hb := Blk.new w3 TCOMP (cmCells k1 i1 j1 vk1 5).toArray
  have hE4 : Ext w3 (w3.alloc (.cells (cmCells k1 i1 j1 vk1 5).toArray TCOMP)) := (Keep.refl _ _).alloc _
  change Calls _ _ _ (w3.alloc (.cells (cmCells k1 i1 j1 vk1 5).toArray TCOMP)) _
  generalize (w3.alloc (.cells (cmCells k1 i1 j1 vk1 5).toArray TCOMP)) = w4 at *
  refine (HDO.out _ (HO.out.ext EVal.ok hE4)).mono ?_
  rintro e w5 ⟨A5, rfl, hl5, hE5⟩
  have hE35 : Ext w3 w5 := hE4.ext hE5
  have hb := hb.keep hE5 id
  have HLY := hid (hl5.more EVal.ok (S' := fun _ => True) fun _ _ _ => trivial)
  replace HO := hid (HO.out.ext EVal.ok hE35)
  replace HE := hid (HE.out.ext hE35)
  have b0 := hb.cell 0
  have b1 := hb.cell 1
  have b2 := hb.cell 2
  have b3 := hb.cell 3
  have b4 := hb.cell 4
  have b5 := hb.cell 5
  have b6 := hb.cell 6
  have b7 := hb.cell 7
  have b8 := hb.cell 8
  have b9 := hb.cell 9
  have b10 := hb.cell 10
  have b11 := hb.cell 11
  simp [cmCells] at b0 b1 b2 b3 b4 b5 b6 b7 b8 b9 b10 b11
  clear hb hE4 hE5 hE35 hl5 HDO
  have hlys := HYL.out
  generalize hls : ys.length = s at *
  go_wp2_with fail
  refine (HAT.out _).mono ?_
  rintro e w6 ⟨rfl, hE6⟩
  replace HLY := hid (HLY.out.ext EVal.ok hE6)
  replace HO := hid (HO.out.ext EVal.ok hE6)
  replace HE := hid (HE.out.ext hE6)
  clear hE6 HAT b0 b1 b2 b3 b4 b5 b6 b7 b8 b9 b10 b11
  have HPLD := hid (show plL k1 i1 j1 p = if (atL k1 i1 j1 p).2 then (atL k1 i1 j1 p).1 else -1 from rfl)
  obtain ⟨pl, hpl⟩ : ∃ pl, pl = plL k1 i1 j1 p := ⟨_, rfl⟩
  rw [← hpl] at HPL HPL2 HPL3 HPLD
  clear hpl
  generalize (atL k1 i1 j1 p).1 = av at *
  generalize (atL k1 i1 j1 p).2 = ab at *
  obtain ⟨b1, f1, d1, rfl, _, _, hr1, hc1'⟩ := HO.out.at_ EVal.ok (k := p) (by rw [HL.out]; exact hp)
  obtain ⟨_, _, e1, _⟩ := rdV_iff.1 hr1
  have x1 := hc1' 1 _ (by rw [e1]; rfl)
  rw [show (numsL n)[p]'(by rw [HL.out]; exact hp) = nV 2 (1000 + (p : Int)) from (List.getElem?_eq_some_iff.1 HPN.out).2] at x1
  have x1 : w6.cell? ⟨b1, f1 + p * 5 + 1, none⟩ = some (.int .i64 (1000 + (p : Int))) := x1
  clear e1 hr1 hc1'
  have hpX : (p : Int) < n := by omega
  have HLS := hid hls
  clear hls
  go_wp2_with fail
  go_loopw [14, 15] (fun x y wr => ∃ (j : Nat) (fd : Int), j ≤ s ∧ y = .int .i64 j ∧ x = .int .i64 fd ∧ Hid (fd = if pl < j then pl else -1) ∧ Ext w6 wr) (fun _ y _ => s - (intOf y).toNat)
  case atStart => exact ⟨0, -1, by omega, rfl, rfl, hid (by have := HPL3.out; split <;> omega), Keep.refl _ _⟩
  case round =>
    obtain ⟨j, fd, hj, rfl, rfl, hfd, hr⟩ := hrel
    by_cases hlt : j < s
    · have hltY : j < ys.length := by rw [HLS.out]; exact hlt
      obtain ⟨b3, f3, d3, e3, _, _, hr3, hc3'⟩ := (HLY.out.ext EVal.ok hr).at_ EVal.ok hltY
      subst e3
      obtain ⟨_, _, e2, _⟩ := rdV_iff.1 hr3
      have x2 := hc3' 1 _ (by rw [e2]; rfl)
      obtain ⟨z, hz1, hz2⟩ := HG.out j hlt
      rw [show ys[j]'hltY = z from (List.getElem?_eq_some_iff.1 hz1).2] at x2
      rw [hz2] at x2
      have hiff := HPL.out j (by omega) (by omega)
      obtain ⟨v2, hv2⟩ : ∃ v2 : Int, v2 = if isNew k1 i1 j then (5 : Int) else 1000 + src k1 i1 j1 j := ⟨_, rfl⟩
      rw [← hv2] at x2 hiff
      have x2 : wr.cell? ⟨b3, f3 + j * 5 + 1, none⟩ = some (.int .i64 v2) := x2
      have x1 := (hr.cell (lt_of_cell x1) id).trans x1
      have HR := hid hr
      have hjX : (j : Int) < s := by omega
      have HIF := hid hiff
      clear e2 hr3 hc3' hz1 hz2 hiff hv2 hr
      by_cases hjp : (j : Int) = pl
      · have ev : (v2 == 1000 + (p : Int)) = true := by have := HIF.out.2 hjp; simp [this]
        have HJP := hid hjp
        clear hjp
        go_wp2_with fail
        refine wp_region_grow (specOf []) (fun w' => Ext wr w') stable_nil (stableC_ext _) (by kernel_rfl) (by kernel_rfl) (Keep.drew (Keep.refl _ _)) ?_
        iterate 11
          (try simp only [Act.put, List.setIfInBounds_toArray, List.set_cons_zero, List.set_cons_succ])
          refine grow_run rfl rfl rfl ?_
          apply Exists.intro
          refine ⟨fun w' hC hK => ?_, ?_⟩
          · have x1 := (hC.cell (lt_of_cell x1) id).trans x1
            have x2 := (hC.cell (lt_of_cell x2) id).trans x2
            go_simp
            rfl
        refine grow_nil fun w7 hC _ => ?_
        have HC := hid (show Ext w6 w7 from HR.out.ext hC)
        clear hC x1 x2
        go_wp2
        exact ⟨⟨j + 1, j, by omega, by go_num, rfl, hid (by have := HJP.out; rw [if_pos (by omega)]; exact this), HC.out⟩, by simp [intOf]; omega⟩
      · have ev : (v2 == 1000 + (p : Int)) = false := by
          simp only [beq_eq_false_iff_ne, ne_eq]
          intro h; exact hjp (HIF.out.1 h)
        have HJP := hid hjp
        clear hjp
        go_wp2_with fail
        refine wp_region_grow (specOf []) (fun w' => Ext wr w') stable_nil (stableC_ext _) (by kernel_rfl) (by kernel_rfl) (Keep.drew (Keep.refl _ _)) ?_
        iterate 11
          (try simp only [Act.put, List.setIfInBounds_toArray, List.set_cons_zero, List.set_cons_succ])
          refine grow_run rfl rfl rfl ?_
          apply Exists.intro
          refine ⟨fun w' hC hK => ?_, ?_⟩
          · have x1 := (hC.cell (lt_of_cell x1) id).trans x1
            have x2 := (hC.cell (lt_of_cell x2) id).trans x2
            go_simp
            rfl
        refine grow_nil fun w7 hC _ => ?_
        have HC := hid (show Ext w6 w7 from HR.out.ext hC)
        clear hC x1 x2
        go_wp2
        exact ⟨⟨j + 1, fd, by omega, by go_num, rfl, hid (by have := HJP.out; rw [hfd.out]; split <;> split <;> omega), HC.out⟩, by simp [intOf]; omega⟩
    · obtain rfl : j = s := by omega
      have hfp : fd = pl := by rw [hfd.out, if_pos HPL2.out]
      have HR := hid (HE.out.ext hr)
      clear hr hfd x1
      cases ab with
      | true =>
        have h1 : pl = av := HPLD.out
        have h0 := HPL4.out rfl
        subst hfp h1
        have ee : (fd == fd) = true := by simp
        go_wp2
        go_ret
        exact ⟨rfl, HR.out.toBelow⟩
      | false =>
        have h1 : pl = -1 := HPLD.out
        subst hfp
        subst h1
        go_wp2
        go_ret
        exact ⟨rfl, HR.out.toBelow⟩
end Go.Proofs.Ytimhfkllamimeaa
