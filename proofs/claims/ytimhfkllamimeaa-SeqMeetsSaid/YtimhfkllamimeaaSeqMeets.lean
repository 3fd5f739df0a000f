/- The law SeqMeets: its walk. -/
import Derived.Test.YtimhfkllamimeaaSeqC3
import Derived.Test.YtimhfkllamimeaaSeqS
import Derived.Test.YtimhfkllamimeaaGrowThree
set_option linter.unusedSimpArgs false
set_option linter.unusedVariables false
namespace Go.Proofs.Ytimhfkllamimeaa
open Go.RowKit

theorem turnC_len {α : Type} (a b : Cm α) (left : Bool) : (turnC a b left).length ≤ 1 := by rw [turnC]; cases turnL a.k a.i a.j b.k b.i b.j left <;> simp
theorem flat_done : ∀ {cs : List (Cm V)} {l l' : List V}, Flat l → (∀ c ∈ cs, ∃ k n, c.x = nV k n) → doneL l cs = some l' → Flat l'
  | [], l, l', hl, _, h => by rw [doneL] at h; obtain rfl := Option.some.inj h; exact hl
  | c :: cs, l, l', hl, hc, h => by
    obtain ⟨m, h1, h2⟩ := doneL_cons h
    exact flat_done (flat_do hl (hc c List.mem_cons_self) h1).1 (fun c hc' => hc c (List.mem_cons_of_mem _ hc')) h2
theorem turnC_x {α : Type} {a b : Cm α} {left : Bool} : ∀ c ∈ turnC a b left, c.x = a.x := by
  rw [turnC]
  cases turnL a.k a.i a.j b.k b.i b.j left <;> simp

set_option maxHeartbeats 12800000 in
theorem meets_walk (a : Int) (q1 q2 : UInt8) (p1 p2 r1 r2 m1 m2 : Int) (left : Bool) (w : World) (ha : (Lit.int .u8 a).wf = true) (hp1 : (Lit.int .i64 p1).wf = true) (hr1 : (Lit.int .i64 r1).wf = true) (hp2 : (Lit.int .i64 p2).wf = true) (hr2 : (Lit.int .i64 r2).wf = true) :
    Calls Try.prog 6 #[.int .u8 a, .agg #[U8 q1, .int .i64 p1, .int .i64 r1, .int .i64 m1], .agg #[U8 q2, .int .i64 p2, .int .i64 r2, .int .i64 m2], .bool left] w fun e w' => e = .returned (.bool true) ∧ Below w.heap.size w w' := by
  obtain ⟨n, hn40, em⟩ := rem40 ha
  have hlen := numsL_len n
  have HF := hid (flat_nums n)
  have HL := hid hlen
  have HI1 := hid (fun w' => in_ok q1 p1 r1 m1 n w' (by omega) hp1 hr1)
  have HI2 := hid (fun w' => in_ok q2 p2 r2 m2 n w' (by omega) hp2 hr2)
  clear ha hp1 hr1 hp2 hr2
  have HEW := hid (show Ext w ((w.alloc (.cells #[U8 q1, .int .i64 p1, .int .i64 r1, .int .i64 m1] 35)).alloc (.cells #[U8 q2, .int .i64 p2, .int .i64 r2, .int .i64 m2] 35)) from ((Keep.refl _ _).alloc _).alloc _)
  have HC0 := hid (show Blk ((w.alloc (.cells #[U8 q1, .int .i64 p1, .int .i64 r1, .int .i64 m1] 35)).alloc (.cells #[U8 q2, .int .i64 p2, .int .i64 r2, .int .i64 m2] 35)) w.heap.size 35 #[U8 q1, .int .i64 p1, .int .i64 r1, .int .i64 m1] from (Blk.new _ _ _).alloc _)
  have HC1 := hid (show Blk ((w.alloc (.cells #[U8 q1, .int .i64 p1, .int .i64 r1, .int .i64 m1] 35)).alloc (.cells #[U8 q2, .int .i64 p2, .int .i64 r2, .int .i64 m2] 35)) (w.heap.size + 1) 35 #[U8 q2, .int .i64 p2, .int .i64 r2, .int .i64 m2] from by
    have := Blk.new (w.alloc (.cells #[U8 q1, .int .i64 p1, .int .i64 r1, .int .i64 m1] 35)) 35 #[U8 q2, .int .i64 p2, .int .i64 r2, .int .i64 m2]
    rwa [World.size_alloc] at this)
  go_enter Try.func6, Try.ntmps6
  go_wp2_with fail
  refine (law_known _).mono ?_
  rintro e w1 ⟨rfl, hE1⟩
  have HE := hid (HEW.out.ext hE1)
  have hC0 := HC0.out.keep hE1 id
  have hC1 := HC1.out.keep hE1 id
  have e0 := hC0.cell 0
  have e1 := hC0.cell 1
  have e2 := hC0.cell 2
  have e3 := hC0.cell 3
  simp at e0 e1 e2 e3
  have f0 := hC1.cell 0
  have f1 := hC1.cell 1
  have f2 := hC1.cell 2
  have f3 := hC1.cell 3
  simp at f0 f1 f2 f3
  clear hE1 HEW HC0 HC1 hC0 hC1
  go_wp2_with fail
  refine (numbers_ok n w1 (by omega)).mono ?_
  rintro e w2 ⟨v, rfl, ho, hE2⟩
  obtain ⟨A, c, rfl, hc1, hc2⟩ := ho.shape
  have HO := hid ((ho.sl EVal.ok).more EVal.ok (S' := fun _ => True) fun _ _ _ => trivial)
  replace HE := hid (HE.out.ext hE2)
  replace e0 := (hE2.cell (lt_of_cell e0) id).trans e0
  replace e1 := (hE2.cell (lt_of_cell e1) id).trans e1
  replace e2 := (hE2.cell (lt_of_cell e2) id).trans e2
  replace e3 := (hE2.cell (lt_of_cell e3) id).trans e3
  replace f0 := (hE2.cell (lt_of_cell f0) id).trans f0
  replace f1 := (hE2.cell (lt_of_cell f1) id).trans f1
  replace f2 := (hE2.cell (lt_of_cell f2) id).trans f2
  replace f3 := (hE2.cell (lt_of_cell f3) id).trans f3
  rw [hlen] at hc1 HO ⊢
  clear ho hE2 em
  go_wp2_with fail
  refine (HI1.out _).mono ?_
  rintro e w3 ⟨⟨k1, i1, j1, vk1, vn1, rfl, hck1, hi1, hi1', hj1, hj1'⟩, hE3⟩
  replace HO := hid (HO.out.ext EVal.ok hE3)
  replace HE := hid (HE.out.ext hE3)
  replace f0 := (hE3.cell (lt_of_cell f0) id).trans f0
  replace f1 := (hE3.cell (lt_of_cell f1) id).trans f1
  replace f2 := (hE3.cell (lt_of_cell f2) id).trans f2
  replace f3 := (hE3.cell (lt_of_cell f3) id).trans f3
  clear hE3 HI1 e0 e1 e2 e3
  have hlf := lt_of_cell f0
  simp only [cmCells]
  go_wp2_with fail
  change Calls _ _ _ (w3.alloc (.cells (cmCells k1 i1 j1 vk1 vn1).toArray TCOMP)) _
  have hb0 := Blk.new w3 TCOMP (cmCells k1 i1 j1 vk1 vn1).toArray
  have hE3 : Ext w3 (w3.alloc (.cells (cmCells k1 i1 j1 vk1 vn1).toArray TCOMP)) := (Keep.refl _ _).alloc _
  generalize (w3.alloc (.cells (cmCells k1 i1 j1 vk1 vn1).toArray TCOMP)) = w3' at *
  refine (HI2.out _).mono ?_
  rintro e w4 ⟨⟨k2, i2, j2, vk2, vn2, rfl, hck2, hi2, hi2', hj2, hj2'⟩, hE4⟩
  have hb0 := hb0.keep hE4 id
  have hE4 : Ext w3 w4 := hE3.ext hE4
  clear hE3 HI2 f0 f1 f2 f3 hlf
  simp only [cmCells]
  go_wp2_with fail
  change Code.wp _ _ _ _ (w4.alloc (.cells (cmCells k2 i2 j2 vk2 vn2).toArray TCOMP))
  have hb0 := hb0.alloc (.cells (cmCells k2 i2 j2 vk2 vn2).toArray TCOMP)
  have hb1 := Blk.new w4 TCOMP (cmCells k2 i2 j2 vk2 vn2).toArray
  have hE5 : Ext w3 (w4.alloc (.cells (cmCells k2 i2 j2 vk2 vn2).toArray TCOMP)) := hE4.alloc _
  generalize (w4.alloc (.cells (cmCells k2 i2 j2 vk2 vn2).toArray TCOMP)) = w5 at *
  replace HO := hid (HO.out.ext EVal.ok hE5)
  replace HE := hid (HE.out.ext hE5)
  have HB0 := hid hb0
  have HB1 := hid hb1
  have a0 := hb0.cell 0
  have a1 := hb0.cell 1
  have a2 := hb0.cell 2
  have a3 := hb0.cell 3
  have a4 := hb0.cell 4
  have a5 := hb0.cell 5
  have a6 := hb0.cell 6
  have a7 := hb0.cell 7
  have a8 := hb0.cell 8
  have a9 := hb0.cell 9
  have a10 := hb0.cell 10
  have a11 := hb0.cell 11
  simp [cmCells] at a0 a1 a2 a3 a4 a5 a6 a7 a8 a9 a10 a11
  have b0 := hb1.cell 0
  have b1 := hb1.cell 1
  have b2 := hb1.cell 2
  have b3 := hb1.cell 3
  have b4 := hb1.cell 4
  have b5 := hb1.cell 5
  have b6 := hb1.cell 6
  have b7 := hb1.cell 7
  have b8 := hb1.cell 8
  have b9 := hb1.cell 9
  have b10 := hb1.cell 10
  have b11 := hb1.cell 11
  simp [cmCells] at b0 b1 b2 b3 b4 b5 b6 b7 b8 b9 b10 b11
  clear hb0 hb1 hE4 hE5
  obtain ⟨ys, hd1, hd2, hy⟩ := tp1 (numsL n) ⟨k1, i1, j1, nV vk1 vn1⟩ ⟨k2, i2, j2, nV vk2 vn2⟩ left (by rw [hlen]; exact hck1) (by rw [hlen]; exact hck2)
  have HFY := hid (flat_done HF.out (fun c hc => by
    rcases List.mem_cons.1 hc with rfl | hc
    · exact ⟨_, _, rfl⟩
    · exact ⟨_, _, turnC_x c hc⟩) hd1)
  have HD1 := hid hd1
  have HD2 := hid hd2
  have HY := hid (show ys.length = ys.length from rfl)
  have S1 := hid (show Sm i1 from ⟨by omega, by omega⟩)
  have S2 := hid (show Sm j1 from ⟨by omega, by omega⟩)
  have S3 := hid (show Sm i2 from ⟨by omega, by omega⟩)
  have S4 := hid (show Sm j2 from ⟨by omega, by omega⟩)
  clear hd1 hd2 hy hck1 hck2 hi1 hi1' hj1 hj1' hi2 hi2' hj2 hj2'
  obtain ⟨cs, hcs⟩ : ∃ cs : List (Cm V), cs = turnC ⟨k2, i2, j2, nV vk2 vn2⟩ ⟨k1, i1, j1, nV vk1 vn1⟩ (!left) := ⟨_, rfl⟩
  have Hcs := hid hcs
  have HLcs := hid (show cs.length ≤ 1 from by rw [hcs]; exact turnC_len _ _ _)
  rw [← hcs] at HD1
  clear hcs
  refine wp_region_three [0, 5, 6] [1, 2, 3, 4, 7] [8, 9] [10, 11, 12, 13, 14]
    (specOf [(2, fun v w' => ∃ g, v = .slice (some ⟨g, 0, none⟩) 1 1 ∧ w5.heap.size ≤ g ∧ Blk w' g TCOMP (cmCells k1 i1 j1 vk1 vn1).toArray), (7, fun v w' => SlShape ECm w' (fun q => w5.heap.size ≤ q) v cs.length cs)])
    (fun w' => Ext w5 w') ?_ (stableC_ext _) (by kernel_rfl) (by kernel_rfl) (Keep.drew (Keep.refl _ _)) ?_
  · exact stable_cons (fun v w w' h he => by obtain ⟨g, h1, h2, h3⟩ := h; exact ⟨g, h1, h2, h3.keep he id⟩) (stable_cons (fun v w w' h he => h.ext ECm.ok he) stable_nil)
  iterate 3
    (try simp only [Act.put, List.setIfInBounds_toArray, List.set_cons_zero, List.set_cons_succ])
    refine pure_run rfl rfl ?_
    apply Exists.intro
    refine ⟨fun w' => ?_, ?_⟩
    · go_simp
      rfl
  refine pure_nil ?_
  iterate 1
    (try simp only [Act.put, List.setIfInBounds_toArray, List.set_cons_zero, List.set_cons_succ])
    refine growP_run rfl rfl rfl ?_
    apply Exists.intro
    refine ⟨fun w' hC hK => ?_, ?_⟩
    · have a0 := (hC.cell (lt_of_cell a0) id).trans a0
      have a1 := (hC.cell (lt_of_cell a1) id).trans a1
      have a2 := (hC.cell (lt_of_cell a2) id).trans a2
      have a3 := (hC.cell (lt_of_cell a3) id).trans a3
      have a4 := (hC.cell (lt_of_cell a4) id).trans a4
      have a5 := (hC.cell (lt_of_cell a5) id).trans a5
      have a6 := (hC.cell (lt_of_cell a6) id).trans a6
      have a7 := (hC.cell (lt_of_cell a7) id).trans a7
      have a8 := (hC.cell (lt_of_cell a8) id).trans a8
      have a9 := (hC.cell (lt_of_cell a9) id).trans a9
      have a10 := (hC.cell (lt_of_cell a10) id).trans a10
      have a11 := (hC.cell (lt_of_cell a11) id).trans a11
      go_simp
      rfl
  (try simp only [Act.put, List.setIfInBounds_toArray, List.set_cons_zero, List.set_cons_succ])
  refine growP_eff rfl rfl rfl (fun w' hC hK => ?_) (fun v2 hv2 => ?_)
  · unfold growAt
    go_simp
    exact ⟨(Keep.refl _ _).alloc _, _, rfl, hC.size, Blk.new _ _ _⟩
  obtain ⟨_, _, g, rfl, _⟩ := hv2.head
  iterate 2
    (try simp only [Act.put, List.setIfInBounds_toArray, List.set_cons_zero, List.set_cons_succ])
    refine growP_run rfl rfl rfl ?_
    apply Exists.intro
    refine ⟨fun w' hC hK => ?_, ?_⟩
    · have a0 := (hC.cell (lt_of_cell a0) id).trans a0
      have a1 := (hC.cell (lt_of_cell a1) id).trans a1
      have a2 := (hC.cell (lt_of_cell a2) id).trans a2
      have a3 := (hC.cell (lt_of_cell a3) id).trans a3
      have a4 := (hC.cell (lt_of_cell a4) id).trans a4
      have a5 := (hC.cell (lt_of_cell a5) id).trans a5
      have a6 := (hC.cell (lt_of_cell a6) id).trans a6
      have a7 := (hC.cell (lt_of_cell a7) id).trans a7
      have a8 := (hC.cell (lt_of_cell a8) id).trans a8
      have a9 := (hC.cell (lt_of_cell a9) id).trans a9
      have a10 := (hC.cell (lt_of_cell a10) id).trans a10
      have a11 := (hC.cell (lt_of_cell a11) id).trans a11
      have b0 := (hC.cell (lt_of_cell b0) id).trans b0
      have b1 := (hC.cell (lt_of_cell b1) id).trans b1
      have b2 := (hC.cell (lt_of_cell b2) id).trans b2
      have b3 := (hC.cell (lt_of_cell b3) id).trans b3
      have b4 := (hC.cell (lt_of_cell b4) id).trans b4
      have b5 := (hC.cell (lt_of_cell b5) id).trans b5
      have b6 := (hC.cell (lt_of_cell b6) id).trans b6
      have b7 := (hC.cell (lt_of_cell b7) id).trans b7
      have b8 := (hC.cell (lt_of_cell b8) id).trans b8
      have b9 := (hC.cell (lt_of_cell b9) id).trans b9
      have b10 := (hC.cell (lt_of_cell b10) id).trans b10
      have b11 := (hC.cell (lt_of_cell b11) id).trans b11
      go_simp
      rfl
  (try simp only [Act.put, List.setIfInBounds_toArray, List.set_cons_zero, List.set_cons_succ])
  refine growP_eff rfl rfl rfl (fun w' hC hK => ?_) (fun v6 hv6 => ?_)
  · unfold growAt
    go_simp
    refine grow_call ((turn_any k2 k1 _ _ _ _ _ _ _ _ _ _ _ _ _ _ _ _ _ _ i2 j2 i1 j1 (!left) w' S3.out S4.out S1.out S2.out).mono ?_)
    intro e w'' h
    obtain ⟨u, rfl, h1, h2⟩ := comp_sl (w0 := w5) hC.size h
    exact ⟨_, rfl, h1, by rw [Hcs.out]; exact h2⟩
  obtain ⟨_, _, A6, d6, rfl, _⟩ := hv6.head
  refine growP_nil fun w4 hC hK => ?_
  change wpList _ _ _ (_ :: _ :: []) _ _
  obtain ⟨g', e2, hg2, hg3⟩ : ∃ g', Value.slice (some ⟨g, 0, none⟩) 1 1 = .slice (some ⟨g', 0, none⟩) 1 1 ∧ w5.heap.size ≤ g' ∧ Blk w4 g' TCOMP (cmCells k1 i1 j1 vk1 vn1).toArray := hK (2, _) (List.mem_cons_of_mem _ List.mem_cons_self)
  obtain rfl : g = g' := by injection e2 with e2; injection e2 with e2; injection e2
  obtain ⟨A6', d6', e6, hs6⟩ : SlShape ECm w4 (fun q => w5.heap.size ≤ q) (.slice A6 cs.length d6) cs.length cs := hK (7, _) List.mem_cons_self
  have hC : Ext w5 w4 := hC
  have HO4 := hid (own_one_cm (base := w5.heap.size) hg2 hg3)
  obtain ⟨ds, hrow, hds⟩ := hs6
  have HR := hid hrow
  have HDS := hid (show Cells ECm w4 (fun _ => False) ds cs from cm_flat hds)
  have hz := hC.size
  have HC4 := hid hC
  clear hK hC e2 hg2 hg3 e6 hds hrow
  (try simp only [Act.put, List.setIfInBounds_toArray, List.set_cons_zero, List.set_cons_succ])
  refine wpList_own_append2 (ys := cs) _ rfl (.tmp 33) (.tmp 38) ECm.ok ty_cmp rfl rfl rfl HO4.out HR.out HDS.out ?c1 ?c2 ?c3 ?c4 ?_
  case c1 => exact fun _ _ => ⟨id, id⟩
  case c2 => have := HLcs.out; simp; omega
  case c3 => have := HLcs.out; simp [maxLen]; omega
  case c4 => exact hz
  intro v' w6' hown' hk hb
  obtain ⟨A5, c5, rfl, hl5, hc5⟩ := hown'.shape
  have hk2 : Ext w5 w6' := Keep.trans (show Ext w5 w4 from HC4.out) hk (fun k hlt e => by have := (HO4.out.lt e).1; omega)
  have HO5 := hid (HO.out.ext EVal.ok hk2)
  have HM := hid (done_ok (numsL n) ys (⟨k1, i1, j1, nV vk1 vn1⟩ :: cs) _ _ _ _ w6' HO5.out (hown'.sl ECm.ok) HF.out (by have := HLcs.out; rw [HL.out, List.length_cons]; omega) HD1.out)
  replace HO := hid HO5.out
  replace HE := hid (HE.out.ext hk2)
  replace HB0 := hid (HB0.out.keep hk2 id)
  replace HB1 := hid (HB1.out.keep hk2 id)
  skip
  clear a0 a1 a2 a3 a4 a5 a6 a7 a8 a9 a10 a11 b0 b1 b2 b3 b4 b5 b6 b7 b8 b9 b10 b11 hown' hk hk2 hb hv2 hv6 HO4 HR HDS HO5 HD1 Hcs HLcs HC4
  rw [show ([⟨k1, i1, j1, nV vk1 vn1⟩] ++ cs : List (Cm V)) = ⟨k1, i1, j1, nV vk1 vn1⟩ :: cs from rfl] at *
  go_wp2_with (go_at_call 27; refine HM.out.mono ?_; rintro e w6 ⟨A7, c7, rfl, hl7, hE7⟩; have HL7 := hid hl7; replace HO := hid (HO.out.ext EVal.ok hE7); replace HB0 := hid (HB0.out.keep hE7 id); replace HB1 := hid (HB1.out.keep hE7 id); skip; replace HE := hid (HE.out.ext hE7); clear hl7 hE7)
  refine Then.normal ?_
  clear HM
  iterate 5
    (try simp only [Act.put, List.setIfInBounds_toArray, List.set_cons_zero, List.set_cons_succ])
    refine pure_run rfl rfl ?_
    apply Exists.intro
    refine ⟨fun w' => ?_, ?_⟩
    · go_simp
      rfl
  refine pure_nil ?_
  refine NoPanic.normal ?_
  (try simp only [Act.put, List.setIfInBounds_toArray, List.set_cons_zero, List.set_cons_succ])
  have hb0 := HB0.out
  have hb1 := HB1.out
  have a0 := hb0.cell 0
  have a1 := hb0.cell 1
  have a2 := hb0.cell 2
  have a3 := hb0.cell 3
  have a4 := hb0.cell 4
  have a5 := hb0.cell 5
  have a6 := hb0.cell 6
  have a7 := hb0.cell 7
  have a8 := hb0.cell 8
  have a9 := hb0.cell 9
  have a10 := hb0.cell 10
  have a11 := hb0.cell 11
  simp [cmCells] at a0 a1 a2 a3 a4 a5 a6 a7 a8 a9 a10 a11
  have b0 := hb1.cell 0
  have b1 := hb1.cell 1
  have b2 := hb1.cell 2
  have b3 := hb1.cell 3
  have b4 := hb1.cell 4
  have b5 := hb1.cell 5
  have b6 := hb1.cell 6
  have b7 := hb1.cell 7
  have b8 := hb1.cell 8
  have b9 := hb1.cell 9
  have b10 := hb1.cell 10
  have b11 := hb1.cell 11
  simp [cmCells] at b0 b1 b2 b3 b4 b5 b6 b7 b8 b9 b10 b11
  clear hb0 hb1
  go_wp2_with fail
  obtain ⟨ct, hct⟩ : ∃ cs : List (Cm V), cs = turnC ⟨k1, i1, j1, nV vk1 vn1⟩ ⟨k2, i2, j2, nV vk2 vn2⟩ left := ⟨_, rfl⟩
  have Hct := hid hct
  have HLct := hid (show ct.length ≤ 1 from by rw [hct]; exact turnC_len _ _ _)
  rw [← hct] at HD2
  clear hct
  refine wp_region_three [0, 5] [1, 2, 3, 4, 6] [7, 8] [9, 10, 11, 12, 13]
    (specOf [(2, fun v w' => ∃ g, v = .slice (some ⟨g, 0, none⟩) 1 1 ∧ w6.heap.size ≤ g ∧ Blk w' g TCOMP (cmCells k2 i2 j2 vk2 vn2).toArray), (6, fun v w' => SlShape ECm w' (fun q => w6.heap.size ≤ q) v ct.length ct)])
    (fun w' => Ext w6 w') ?_ (stableC_ext _) (by kernel_rfl) (by kernel_rfl) (Keep.drew (Keep.refl _ _)) ?_
  · exact stable_cons (fun v w w' h he => by obtain ⟨g, h1, h2, h3⟩ := h; exact ⟨g, h1, h2, h3.keep he id⟩) (stable_cons (fun v w w' h he => h.ext ECm.ok he) stable_nil)
  iterate 2
    (try simp only [Act.put, List.setIfInBounds_toArray, List.set_cons_zero, List.set_cons_succ])
    refine pure_run rfl rfl ?_
    apply Exists.intro
    refine ⟨fun w' => ?_, ?_⟩
    · go_simp
      rfl
  refine pure_nil ?_
  iterate 1
    (try simp only [Act.put, List.setIfInBounds_toArray, List.set_cons_zero, List.set_cons_succ])
    refine growP_run rfl rfl rfl ?_
    apply Exists.intro
    refine ⟨fun w' hC hK => ?_, ?_⟩
    · have b0 := (hC.cell (lt_of_cell b0) id).trans b0
      have b1 := (hC.cell (lt_of_cell b1) id).trans b1
      have b2 := (hC.cell (lt_of_cell b2) id).trans b2
      have b3 := (hC.cell (lt_of_cell b3) id).trans b3
      have b4 := (hC.cell (lt_of_cell b4) id).trans b4
      have b5 := (hC.cell (lt_of_cell b5) id).trans b5
      have b6 := (hC.cell (lt_of_cell b6) id).trans b6
      have b7 := (hC.cell (lt_of_cell b7) id).trans b7
      have b8 := (hC.cell (lt_of_cell b8) id).trans b8
      have b9 := (hC.cell (lt_of_cell b9) id).trans b9
      have b10 := (hC.cell (lt_of_cell b10) id).trans b10
      have b11 := (hC.cell (lt_of_cell b11) id).trans b11
      go_simp
      rfl
  (try simp only [Act.put, List.setIfInBounds_toArray, List.set_cons_zero, List.set_cons_succ])
  refine growP_eff rfl rfl rfl (fun w' hC hK => ?_) (fun v2 hv2 => ?_)
  · unfold growAt
    go_simp
    exact ⟨(Keep.refl _ _).alloc _, _, rfl, hC.size, Blk.new _ _ _⟩
  obtain ⟨_, _, g, rfl, _⟩ := hv2.head
  iterate 2
    (try simp only [Act.put, List.setIfInBounds_toArray, List.set_cons_zero, List.set_cons_succ])
    refine growP_run rfl rfl rfl ?_
    apply Exists.intro
    refine ⟨fun w' hC hK => ?_, ?_⟩
    · have b0 := (hC.cell (lt_of_cell b0) id).trans b0
      have b1 := (hC.cell (lt_of_cell b1) id).trans b1
      have b2 := (hC.cell (lt_of_cell b2) id).trans b2
      have b3 := (hC.cell (lt_of_cell b3) id).trans b3
      have b4 := (hC.cell (lt_of_cell b4) id).trans b4
      have b5 := (hC.cell (lt_of_cell b5) id).trans b5
      have b6 := (hC.cell (lt_of_cell b6) id).trans b6
      have b7 := (hC.cell (lt_of_cell b7) id).trans b7
      have b8 := (hC.cell (lt_of_cell b8) id).trans b8
      have b9 := (hC.cell (lt_of_cell b9) id).trans b9
      have b10 := (hC.cell (lt_of_cell b10) id).trans b10
      have b11 := (hC.cell (lt_of_cell b11) id).trans b11
      have a0 := (hC.cell (lt_of_cell a0) id).trans a0
      have a1 := (hC.cell (lt_of_cell a1) id).trans a1
      have a2 := (hC.cell (lt_of_cell a2) id).trans a2
      have a3 := (hC.cell (lt_of_cell a3) id).trans a3
      have a4 := (hC.cell (lt_of_cell a4) id).trans a4
      have a5 := (hC.cell (lt_of_cell a5) id).trans a5
      have a6 := (hC.cell (lt_of_cell a6) id).trans a6
      have a7 := (hC.cell (lt_of_cell a7) id).trans a7
      have a8 := (hC.cell (lt_of_cell a8) id).trans a8
      have a9 := (hC.cell (lt_of_cell a9) id).trans a9
      have a10 := (hC.cell (lt_of_cell a10) id).trans a10
      have a11 := (hC.cell (lt_of_cell a11) id).trans a11
      go_simp
      rfl
  (try simp only [Act.put, List.setIfInBounds_toArray, List.set_cons_zero, List.set_cons_succ])
  refine growP_eff rfl rfl rfl (fun w' hC hK => ?_) (fun v6 hv6 => ?_)
  · unfold growAt
    go_simp
    refine grow_call ((turn_any k1 k2 _ _ _ _ _ _ _ _ _ _ _ _ _ _ _ _ _ _ i1 j1 i2 j2 left w' S1.out S2.out S3.out S4.out).mono ?_)
    intro e w'' h
    obtain ⟨u, rfl, h1, h2⟩ := comp_sl (w0 := w6) hC.size h
    exact ⟨_, rfl, h1, by rw [Hct.out]; exact h2⟩
  obtain ⟨_, _, A6, d6, rfl, _⟩ := hv6.head
  refine growP_nil fun w4 hC hK => ?_
  change wpList _ _ _ (_ :: _ :: []) _ _
  obtain ⟨g', e2, hg2, hg3⟩ : ∃ g', Value.slice (some ⟨g, 0, none⟩) 1 1 = .slice (some ⟨g', 0, none⟩) 1 1 ∧ w6.heap.size ≤ g' ∧ Blk w4 g' TCOMP (cmCells k2 i2 j2 vk2 vn2).toArray := hK (2, _) (List.mem_cons_of_mem _ List.mem_cons_self)
  obtain rfl : g = g' := by injection e2 with e2; injection e2 with e2; injection e2
  obtain ⟨A6', d6', e6, hs6⟩ : SlShape ECm w4 (fun q => w6.heap.size ≤ q) (.slice A6 ct.length d6) ct.length ct := hK (6, _) List.mem_cons_self
  have hC : Ext w6 w4 := hC
  have HO4 := hid (own_one_cm (base := w6.heap.size) hg2 hg3)
  obtain ⟨ds, hrow, hds⟩ := hs6
  have HR := hid hrow
  have HDS := hid (show Cells ECm w4 (fun _ => False) ds ct from cm_flat hds)
  have hz := hC.size
  have HC4 := hid hC
  clear hK hC e2 hg2 hg3 e6 hds hrow
  (try simp only [Act.put, List.setIfInBounds_toArray, List.set_cons_zero, List.set_cons_succ])
  refine wpList_own_append2 (ys := ct) _ rfl (.tmp 46) (.tmp 50) ECm.ok ty_cmp rfl rfl rfl HO4.out HR.out HDS.out ?c1 ?c2 ?c3 ?c4 ?_
  case c1 => exact fun _ _ => ⟨id, id⟩
  case c2 => have := HLct.out; simp; omega
  case c3 => have := HLct.out; simp [maxLen]; omega
  case c4 => exact hz
  intro v' w7' hown' hk hb
  obtain ⟨A5, c5, rfl, hl5, hc5⟩ := hown'.shape
  have hk2 : Ext w6 w7' := Keep.trans (show Ext w6 w4 from HC4.out) hk (fun k hlt e => by have := (HO4.out.lt e).1; omega)
  have HO5 := hid (HO.out.ext EVal.ok hk2)
  have HM := hid (done_ok (numsL n) ys (⟨k2, i2, j2, nV vk2 vn2⟩ :: ct) _ _ _ _ w7' HO5.out (hown'.sl ECm.ok) HF.out (by have := HLct.out; rw [HL.out, List.length_cons]; omega) HD2.out)
  replace HO := hid HO5.out
  replace HE := hid (HE.out.ext hk2)
  replace HB0 := hid (HB0.out.keep hk2 id)
  replace HB1 := hid (HB1.out.keep hk2 id)
  replace HL7 := hid (HL7.out.ext EVal.ok hk2)
  clear a0 a1 a2 a3 a4 a5 a6 a7 a8 a9 a10 a11 b0 b1 b2 b3 b4 b5 b6 b7 b8 b9 b10 b11 hown' hk hk2 hb hv2 hv6 HO4 HR HDS HO5 HD2 Hct HLct HC4
  rw [show ([⟨k2, i2, j2, nV vk2 vn2⟩] ++ ct : List (Cm V)) = ⟨k2, i2, j2, nV vk2 vn2⟩ :: ct from rfl] at *
  go_wp2_with (go_at_call 27; refine HM.out.mono ?_; rintro e w7 ⟨A8, c8, rfl, hl7, hE7⟩; have HL8 := hid hl7; replace HO := hid (HO.out.ext EVal.ok hE7); replace HB0 := hid (HB0.out.keep hE7 id); replace HB1 := hid (HB1.out.keep hE7 id); replace HL7 := hid (HL7.out.ext EVal.ok hE7); replace HE := hid (HE.out.ext hE7); clear hl7 hE7)
  refine Then.normal ?_
  clear HM
  iterate 5
    (try simp only [Act.put, List.setIfInBounds_toArray, List.set_cons_zero, List.set_cons_succ])
    refine pure_run rfl rfl ?_
    apply Exists.intro
    refine ⟨fun w' => ?_, ?_⟩
    · go_simp
      rfl
  refine pure_nil ?_
  refine NoPanic.normal ?_
  (try simp only [Act.put, List.setIfInBounds_toArray, List.set_cons_zero, List.set_cons_succ])
  go_wp2_with fail
  refine (same_list ys _ _ _ _ w7 HL7.out HL8.out (flat_leaf HFY.out)).mono ?_
  rintro e w8 ⟨rfl, hE8⟩
  replace HE := hid (HE.out.ext hE8)
  clear hE8
  go_wp2_with fail
  go_ret
  exact ⟨rfl, HE.out.toBelow⟩
end Go.Proofs.Ytimhfkllamimeaa
