/- The law SeqDoes: its walk. -/
import Derived.Test.YtimhfkllamimeaaSeqRK
import Derived.Test.YtimhfkllamimeaaLawAid0
set_option linter.unusedSimpArgs false
set_option linter.unusedVariables false
namespace Go.Proofs.Ytimhfkllamimeaa
open Go.RowKit

def FarIs (w : World) (e : Ending) (w' : World) : Prop := ∃ b, e = .returned (.bool b) ∧ Ext w w'
set_option maxHeartbeats 1600000 in
theorem far_any (k : UInt8) (i j n : Int) (w : World) : Calls Try.prog 13 #[.agg #[U8 k, .int .i64 i, .int .i64 j, .int .i64 n]] w (FarIs w) := by
  by_cases h1 : i > 1073741824
  · go_enter Try.func13, Try.ntmps13
    go_wp2
    go_ret
    exact ⟨_, rfl, (Keep.refl _ _).alloc _⟩
  by_cases h2 : i < -1073741824
  · go_enter Try.func13, Try.ntmps13
    go_wp2
    go_ret
    exact ⟨_, rfl, (Keep.refl _ _).alloc _⟩
  by_cases h3 : j > 1073741824
  · go_enter Try.func13, Try.ntmps13
    go_wp2
    go_ret
    exact ⟨_, rfl, (Keep.refl _ _).alloc _⟩
  by_cases h4 : j < -1073741824
  all_goals
    go_enter Try.func13, Try.ntmps13
    go_wp2
    go_ret
    exact ⟨_, rfl, (Keep.refl _ _).alloc _⟩
set_option maxHeartbeats 12800000 in
theorem does_walk (a : Int) (q1 q3 : UInt8) (p1 r1 m1 : Int) (w : World) (ha : (Lit.int .u8 a).wf = true) :
    Calls Try.prog 4 #[.int .u8 a, .agg #[U8 q1, .int .i64 p1, .int .i64 r1, .int .i64 m1], U8 q3] w fun e w' => e = .returned (.bool true) ∧ Below w.heap.size w w' := by
  obtain ⟨n, hn40, em⟩ := rem40 ha
  have hlen := numsL_len n
  have hb := Blk.new w 35 #[U8 q1, .int .i64 p1, .int .i64 r1, .int .i64 m1]
  have HE := hid (show Ext w (w.alloc (.cells #[U8 q1, .int .i64 p1, .int .i64 r1, .int .i64 m1] 35)) from (Keep.refl _ _).alloc _)
  clear ha
  go_enter Try.func4, Try.ntmps4
  go_wp2_with fail
  change Calls _ _ _ (w.alloc (.cells #[U8 q1, .int .i64 p1, .int .i64 r1, .int .i64 m1] 35)) _
  generalize (w.alloc (.cells #[U8 q1, .int .i64 p1, .int .i64 r1, .int .i64 m1] 35)) = w0 at *
  have e0 := hb.cell 0
  have e1 := hb.cell 1
  have e2 := hb.cell 2
  have e3 := hb.cell 3
  simp at e0 e1 e2 e3
  clear hb
  refine (far_any q1 p1 r1 m1 _).mono ?_
  rintro e w1 ⟨b, rfl, hE⟩
  replace HE := hid (HE.out.ext hE)
  replace e0 := (hE.cell (lt_of_cell e0) id).trans e0
  replace e1 := (hE.cell (lt_of_cell e1) id).trans e1
  replace e2 := (hE.cell (lt_of_cell e2) id).trans e2
  replace e3 := (hE.cell (lt_of_cell e3) id).trans e3
  clear hE
  cases b
  case true =>
    go_wp2_with fail
    refine (law_known _).mono ?_
    rintro e w9 ⟨rfl, hE⟩
    replace HE := hid (HE.out.ext hE)
    clear hE
    go_wp2_with fail
    go_ret
    exact ⟨rfl, HE.out.toBelow⟩
  go_wp2_with fail
  refine (law_known _).mono ?_
  rintro e w2 ⟨rfl, hE⟩
  replace HE := hid (HE.out.ext hE)
  replace e0 := (hE.cell (lt_of_cell e0) id).trans e0
  replace e1 := (hE.cell (lt_of_cell e1) id).trans e1
  replace e2 := (hE.cell (lt_of_cell e2) id).trans e2
  replace e3 := (hE.cell (lt_of_cell e3) id).trans e3
  clear hE
  go_wp2_with fail
  refine (numbers_ok n w2 (by omega)).mono ?_
  rintro e w3 ⟨v, rfl, ho, hE⟩
  obtain ⟨A, c, rfl, hc1, hc2⟩ := ho.shape
  have HO := hid ((ho.sl EVal.ok).more EVal.ok (S' := fun _ => True) fun _ _ _ => trivial)
  replace HE := hid (HE.out.ext hE)
  replace e0 := (hE.cell (lt_of_cell e0) id).trans e0
  replace e1 := (hE.cell (lt_of_cell e1) id).trans e1
  replace e2 := (hE.cell (lt_of_cell e2) id).trans e2
  replace e3 := (hE.cell (lt_of_cell e3) id).trans e3
  rw [hlen] at hc1 HO ⊢
  clear ho hE
  go_wp2_with fail
  refine (comp_ok q1 p1 r1 m1 _).mono ?_
  rintro e w4 ⟨rfl, hE⟩
  replace HE := hid (HE.out.ext hE)
  replace HO := hid (HO.out.ext EVal.ok hE)
  clear hE e0 e1 e2 e3
  generalize kL q1 = k1 at *
  generalize jL k1 r1 = j1 at *
  generalize hvk : vkL k1 = vk1 at *
  generalize hvn : vnL k1 m1 = vn1 at *
  clear hvk hvn
  obtain ⟨ys, ck, hck, hfy, hd1, hd2⟩ := both n (numsL n) hlen (flat_nums n) (by omega) k1 p1 j1 vk1 vn1
  have HCK := hid hck
  have HFY := hid hfy
  have HD1 := hid hd1
  have HD2 := hid hd2
  clear hck hfy hd1 hd2
  simp only [cmCells]
  go_wp2_with fail
  change Calls _ _ _ ((w4.alloc (.cells (cmCells k1 p1 j1 vk1 vn1).toArray TCOMP)).alloc (.cells (cmCells q3 p1 j1 vk1 vn1).toArray TCOMP)) _
  obtain ⟨hb0, hb1, hE⟩ := blk_two w4 TCOMP (cmCells k1 p1 j1 vk1 vn1).toArray (cmCells q3 p1 j1 vk1 vn1).toArray
  generalize ((w4.alloc (.cells (cmCells k1 p1 j1 vk1 vn1).toArray TCOMP)).alloc (.cells (cmCells q3 p1 j1 vk1 vn1).toArray TCOMP)) = w5 at *
  replace HE := hid (HE.out.ext hE)
  replace HO := hid (HO.out.ext EVal.ok hE)
  clear hE
  refine (HD1.out _ w5 HO.out).mono ?_
  rintro e w6 ⟨A6, c6, rfl, hs6, hE⟩
  have hb0 := hb0.keep hE id
  have hb1 := hb1.keep hE id
  replace HE := hid (HE.out.ext hE)
  replace HO := hid (HO.out.ext EVal.ok hE)
  have HS6 := hid hs6
  have HB1 := hid hb1
  have a0 := hb0.cell 0
  have a1 := hb0.cell 1
  have a2 := hb0.cell 2
  have a3 := hb0.cell 3
  have a4 := hb0.cell 4
  have a5 := hb0.cell 5
  have a6 := hb0.cell 6
  have a7 := hb0.cell 7
  have a8 := hb0.cell 8
  have a9 := hb0.cell 9
  have a10 := hb0.cell 10
  have a11 := hb0.cell 11
  simp [cmCells] at a0 a1 a2 a3 a4 a5 a6 a7 a8 a9 a10 a11
  clear hE hs6 hb0 hb1 HD1
  go_wp2_with fail
  refine (HD2.out _ w6 HO.out).mono ?_
  rintro e w7 ⟨A7, c7, rfl, hs7, hE⟩
  have hb1 := HB1.out.keep hE id
  replace HE := hid (HE.out.ext hE)
  replace HO := hid (HO.out.ext EVal.ok hE)
  replace HS6 := hid (HS6.out.ext EVal.ok hE)
  have HS7 := hid hs7
  have c0 := hb1.cell 0
  have c1 := hb1.cell 1
  have c2 := hb1.cell 2
  have c3 := hb1.cell 3
  have c4 := hb1.cell 4
  have c5 := hb1.cell 5
  have c6 := hb1.cell 6
  have c7 := hb1.cell 7
  have c8 := hb1.cell 8
  have c9 := hb1.cell 9
  have c10 := hb1.cell 10
  have c11 := hb1.cell 11
  simp [cmCells] at c0 c1 c2 c3 c4 c5 c6 c7 c8 c9 c10 c11
  clear hE hs7 hb1 HD2 HB1 a0 a1 a2 a3 a4 a5 a6 a7 a8 a9 a10 a11
  go_wp2_with fail
  have hckb : 0 ≤ ck ∧ ck ≤ 32 := by have := HCK.out; omega
  have ecc : (ck == ck) = true := by simp
  have HCH := hid (fun w' => check_any n q3 (.slice none 0 0) (.string ⟨#[]⟩) (.int .i64 0) (U8 vk1) (.int .i64 vn1) (.string ⟨#[]⟩) (.slice none 0 0) (.slice none 0 0) (.string ⟨#[]⟩) p1 j1 w' (by omega))
  have HRC := hid (fun w' => rcheck_any n q3 (.slice none 0 0) (.string ⟨#[]⟩) (.int .i64 0) (U8 vk1) (.int .i64 vn1) (.string ⟨#[]⟩) (.slice none 0 0) (.slice none 0 0) (.string ⟨#[]⟩) p1 j1 w' (by omega))
  have hck2 := ck_cases n q3 p1 j1
  generalize checkL n q3 p1 j1 = ck2 at *
  have hckb2 : 0 ≤ ck2 ∧ ck2 ≤ 32 := by omega
  have ecc2 : (ck2 == ck2) = true := by simp
  have ew : IntKind.i64.wrap ck = ck := IntWalk.i64_in _ (by omega)
  have ew2 : IntKind.i64.wrap ck2 = ck2 := IntWalk.i64_in _ (by omega)
  have ewn : IntKind.i64.wrap (n : Int) = n := IntWalk.i64_in _ (by omega)
  have ewn8 : IntKind.u8.wrap (n : Int) = n := IntWalk.u8_in _ (by omega)
  clear hck2
  refine wp_region_grow (specOf [(2, fun v _ => v = .bool true), (13, fun v _ => v = .int .u16 ck2), (18, fun v _ => v = .int .i64 ck2), (26, fun v w' => SlShape EVal w' (fun _ => True) v n (numsL n)), (27, fun v _ => v = .bool true)])
    (fun w' => Ext w7 w') ?_ (stableC_ext _) (by kernel_rfl) (by kernel_rfl) (Keep.drew (Keep.refl _ _)) ?_
  · exact stable_cons (fun v w w' h he => h) (stable_cons (fun v w w' h he => h) (stable_cons (fun v w w' h he => h) (stable_cons (fun v w w' h he => h.ext EVal.ok he) (stable_cons (fun v w w' h he => h) stable_nil))))
  iterate 2
    (try simp only [Act.put, List.setIfInBounds_toArray, List.set_cons_zero, List.set_cons_succ])
    refine grow_run rfl rfl rfl ?_
    apply Exists.intro
    refine ⟨fun w' hC hK => ?_, ?_⟩
    · go_simp
      rfl
  (try simp only [Act.put, List.setIfInBounds_toArray, List.set_cons_zero, List.set_cons_succ])
  refine grow_eff rfl rfl rfl (fun w' hC hK => ?_) (fun v2 hv2 => ?_)
  · unfold growAt
    go_simp
    refine grow_call ((same_list ys _ _ _ _ w' (HS6.out.ext EVal.ok hC) (HS7.out.ext EVal.ok hC) HFY.out).mono ?_)
    rintro e w'' ⟨rfl, h⟩
    exact ⟨_, rfl, h, rfl⟩
  obtain ⟨_, _, rfl⟩ := hv2.head
  iterate 7
    (try simp only [Act.put, List.setIfInBounds_toArray, List.set_cons_zero, List.set_cons_succ])
    refine grow_run rfl rfl rfl ?_
    apply Exists.intro
    refine ⟨fun w' hC hK => ?_, ?_⟩
    · go_simp
      rfl
  iterate 3
    (try simp only [Act.put, List.setIfInBounds_toArray, List.set_cons_zero, List.set_cons_succ])
    refine grow_run rfl rfl rfl ?_
    apply Exists.intro
    refine ⟨fun w' hC hK => ?_, ?_⟩
    · have c0 := (hC.cell (lt_of_cell c0) id).trans c0
      have c1 := (hC.cell (lt_of_cell c1) id).trans c1
      have c2 := (hC.cell (lt_of_cell c2) id).trans c2
      have c3 := (hC.cell (lt_of_cell c3) id).trans c3
      have c4 := (hC.cell (lt_of_cell c4) id).trans c4
      have c5 := (hC.cell (lt_of_cell c5) id).trans c5
      have c6 := (hC.cell (lt_of_cell c6) id).trans c6
      have c7 := (hC.cell (lt_of_cell c7) id).trans c7
      have c8 := (hC.cell (lt_of_cell c8) id).trans c8
      have c9 := (hC.cell (lt_of_cell c9) id).trans c9
      have c10 := (hC.cell (lt_of_cell c10) id).trans c10
      have c11 := (hC.cell (lt_of_cell c11) id).trans c11
      go_simp
      rfl
  (try simp only [Act.put, List.setIfInBounds_toArray, List.set_cons_zero, List.set_cons_succ])
  refine grow_eff rfl rfl rfl (fun w' hC hK => ?_) (fun v13 hv13 => ?_)
  · unfold growAt
    go_simp
    refine grow_call ((HCH.out w').mono ?_)
    rintro e w'' ⟨rfl, h⟩
    exact ⟨_, rfl, h, rfl⟩
  obtain ⟨_, _, rfl⟩ := hv13.head
  iterate 4
    (try simp only [Act.put, List.setIfInBounds_toArray, List.set_cons_zero, List.set_cons_succ])
    refine grow_run rfl rfl rfl ?_
    apply Exists.intro
    refine ⟨fun w' hC hK => ?_, ?_⟩
    · have c0 := (hC.cell (lt_of_cell c0) id).trans c0
      have c1 := (hC.cell (lt_of_cell c1) id).trans c1
      have c2 := (hC.cell (lt_of_cell c2) id).trans c2
      have c3 := (hC.cell (lt_of_cell c3) id).trans c3
      have c4 := (hC.cell (lt_of_cell c4) id).trans c4
      have c5 := (hC.cell (lt_of_cell c5) id).trans c5
      have c6 := (hC.cell (lt_of_cell c6) id).trans c6
      have c7 := (hC.cell (lt_of_cell c7) id).trans c7
      have c8 := (hC.cell (lt_of_cell c8) id).trans c8
      have c9 := (hC.cell (lt_of_cell c9) id).trans c9
      have c10 := (hC.cell (lt_of_cell c10) id).trans c10
      have c11 := (hC.cell (lt_of_cell c11) id).trans c11
      go_simp
      rfl
  (try simp only [Act.put, List.setIfInBounds_toArray, List.set_cons_zero, List.set_cons_succ])
  refine grow_eff rfl rfl rfl (fun w' hC hK => ?_) (fun v18 hv18 => ?_)
  · unfold growAt
    go_simp
    refine grow_call ((HRC.out w').mono ?_)
    rintro e w'' ⟨rfl, h⟩
    exact ⟨_, rfl, h, rfl⟩
  obtain ⟨_, _, rfl⟩ := hv18.head
  iterate 7
    (try simp only [Act.put, List.setIfInBounds_toArray, List.set_cons_zero, List.set_cons_succ])
    refine grow_run rfl rfl rfl ?_
    apply Exists.intro
    refine ⟨fun w' hC hK => ?_, ?_⟩
    · go_simp
      rfl
  (try simp only [Act.put, List.setIfInBounds_toArray, List.set_cons_zero, List.set_cons_succ])
  refine grow_eff rfl rfl rfl (fun w' hC hK => ?_) (fun v26 hv26 => ?_)
  · unfold growAt
    go_simp
    refine grow_call ((numbers_ok n w' (by omega)).mono ?_)
    rintro e w'' ⟨v, rfl, ho, h⟩
    obtain ⟨A9, c9, rfl, _, _⟩ := ho.shape
    rw [hlen] at ho ⊢
    exact ⟨_, rfl, h, A9, c9, rfl, (ho.sl EVal.ok).more EVal.ok fun _ _ _ => trivial⟩
  obtain ⟨_, _, A9, c9, rfl, _⟩ := hv26.head
  (try simp only [Act.put, List.setIfInBounds_toArray, List.set_cons_zero, List.set_cons_succ])
  refine grow_eff rfl rfl rfl (fun w' hC hK => ?_) (fun v27 hv27 => ?_)
  · have g1 : SlShape EVal w' (fun _ => True) (.slice A9 n c9) n (numsL n) := hK.get (i := 26) List.mem_cons_self (by kernel_rfl)
    obtain ⟨_, _, e9, g1⟩ := g1
    clear e9
    unfold growAt
    go_simp
    refine grow_call ((same_list (numsL n) _ _ _ _ w' (HO.out.ext EVal.ok hC) g1 (flat_leaf (flat_nums n))).mono ?_)
    rintro e w'' ⟨rfl, h⟩
    exact ⟨_, rfl, h, rfl⟩
  obtain ⟨_, _, rfl⟩ := hv27.head
  iterate 2
    (try simp only [Act.put, List.setIfInBounds_toArray, List.set_cons_zero, List.set_cons_succ])
    refine grow_run rfl rfl rfl ?_
    apply Exists.intro
    refine ⟨fun w' hC hK => ?_, ?_⟩
    · go_simp
      rfl
  refine grow_nil fun w11 hC _ => ?_
  replace HE := hid (HE.out.ext hC)
  (try simp only [Act.put, List.setIfInBounds_toArray, List.set_cons_zero, List.set_cons_succ])
  go_wp2
  go_ret
  exact ⟨rfl, HE.out.toBelow⟩
theorem does_cuts (a : Int) (x1 : Array Value) (c1 : LCut) (b : Int) (w : World) (ha : (Lit.int .u8 a).wf = true) (h1 : ECut.rd w (fun k => k < w.heap.size) x1.toList c1) (_ : CutOk c1) (hb : (Lit.int .u8 b).wf = true) :
    Calls Try.prog 4 #[.int .u8 a, .agg x1, .int .u8 b] w fun e w' => e = .returned (.bool true) ∧ Below w.heap.size w w' := by
  rw [cut_cells h1]
  obtain ⟨q, rfl⟩ := u8_of_wf hb
  exact does_walk a _ q _ _ _ w ha
end Go.Proofs.Ytimhfkllamimeaa
