/- The reference's Same, at like values without fields. -/
import Derived.Test.YtimhfkllamimeaaSeqK
set_option linter.unusedSimpArgs false
set_option linter.unusedVariables false
namespace Go.Proofs.Ytimhfkllamimeaa
open Go.RowKit

set_option maxHeartbeats 3200000 in
theorem same_step (k : UInt8) (n : Int) (s : ByteArray) (xs : List V) (u v : Value) (S1 S2 : BS) (w : World) (hu : VAt w S1 u (.mk k n s xs [])) (hv : VAt w S2 v (.mk k n s xs []))
    (hall : ∀ y ∈ xs, ∀ (a b : Value) (w : World), VAt w S1 a y → VAt w S2 b y → Calls Try.prog 37 #[a, b] w fun e w' => e = .returned (.bool true) ∧ Ext w w') :
    Calls Try.prog 37 #[u, v] w fun e w' => e = .returned (.bool true) ∧ Ext w w' := by
  obtain ⟨l1, o1, rfl, h1, h2⟩ := hu
  obtain ⟨l2, o2, rfl, h3, h4⟩ := hv
  obtain ⟨A1, c1, rfl, hc1, hm1⟩ := h1.shape
  obtain ⟨A2, c2, rfl, _, _⟩ := h2.shape
  obtain ⟨A3, c3, rfl, _, _⟩ := h3.shape
  obtain ⟨A4, c4, rfl, _, _⟩ := h4.shape
  simp only [V.kind, V.n, V.s, V.l, V.o, List.length_nil] at *
  unfold maxLen at hm1
  have H1 := hid h1
  have H3 := hid h3
  have HALL := hid hall
  have hb0 : Blk ((w.alloc (.cells #[U8 k, .int .i64 n, .string s, .slice A1 xs.length c1, .slice A2 0 c2] TVAL)).alloc (.cells #[U8 k, .int .i64 n, .string s, .slice A3 xs.length c3, .slice A4 0 c4] TVAL)) w.heap.size TVAL #[U8 k, .int .i64 n, .string s, .slice A1 xs.length c1, .slice A2 0 c2] := (Blk.new _ _ _).alloc _
  have hb1 : Blk ((w.alloc (.cells #[U8 k, .int .i64 n, .string s, .slice A1 xs.length c1, .slice A2 0 c2] TVAL)).alloc (.cells #[U8 k, .int .i64 n, .string s, .slice A3 xs.length c3, .slice A4 0 c4] TVAL)) (w.heap.size + 1) TVAL #[U8 k, .int .i64 n, .string s, .slice A3 xs.length c3, .slice A4 0 c4] := by
    have := Blk.new (w.alloc (.cells #[U8 k, .int .i64 n, .string s, .slice A1 xs.length c1, .slice A2 0 c2] TVAL)) TVAL #[U8 k, .int .i64 n, .string s, .slice A3 xs.length c3, .slice A4 0 c4]
    rwa [World.size_alloc] at this
  have hE : Ext w ((w.alloc (.cells #[U8 k, .int .i64 n, .string s, .slice A1 xs.length c1, .slice A2 0 c2] TVAL)).alloc (.cells #[U8 k, .int .i64 n, .string s, .slice A3 xs.length c3, .slice A4 0 c4] TVAL)) := ((Keep.refl _ _).alloc _).alloc _
  have HB0 := hid hb0
  have HB1 := hid hb1
  have HE := hid hE
  clear h1 h2 h3 h4 hall hb0 hb1 hE
  have e1 : ((k.toNat : Int) == k.toNat) = true := by simp
  have e2 : (n == n) = true := by simp
  have e4 : ((xs.length : Int) == xs.length) = true := by simp
  go_enter Try.func37, Try.ntmps37
  go_wp2_with fail
  generalize ((w.alloc (.cells #[U8 k, .int .i64 n, .string s, .slice A1 xs.length c1, .slice A2 0 c2] TVAL)).alloc (.cells #[U8 k, .int .i64 n, .string s, .slice A3 xs.length c3, .slice A4 0 c4] TVAL)) = w0 at *
  go_loopw [5] (fun y wr => ∃ (j : Nat), j ≤ xs.length ∧ y = .int .i64 j ∧ Ext w0 wr) (fun y _ => xs.length - (intOf y).toNat)
  case atStart => exact ⟨0, by omega, rfl, Keep.refl _ _⟩
  case round =>
    obtain ⟨j, hj, rfl, hr⟩ := hrel
    have hx := HB0.out.keep hr id
    have hy := HB1.out.keep hr id
    have x3 := hx.cell 3
    have x4 := hx.cell 4
    have y3 := hy.cell 3
    have y4 := hy.cell 4
    simp at x3 x4 y3 y4
    have HR := hid (HE.out.ext hr)
    have HR0 := hid hr
    clear hx hy hr
    by_cases hlt : j < xs.length
    · obtain ⟨b1, f1, d1, rfl, hb1, hs1, hr1, hc1'⟩ := (H1.out.ext EVal.ok HR.out).at_ EVal.ok hlt
      obtain ⟨b2, f2, d2, rfl, hb2, hs2, hr2, hc2'⟩ := (H3.out.ext EVal.ok HR.out).at_ EVal.ok hlt
      obtain ⟨B1, n1, z1, B2, n2, z2, rfl, _, _, hva⟩ := EVal_cells hr1
      obtain ⟨B3, n3, z3, B4, n4, z4, rfl, _, _, hvb⟩ := EVal_cells hr2
      have p0 := hc1' 0 _ rfl
      have p1 := hc1' 1 _ rfl
      have p2 := hc1' 2 _ rfl
      have p3 := hc1' 3 _ rfl
      have p4 := hc1' 4 _ rfl
      have q0 := hc2' 0 _ rfl
      have q1 := hc2' 1 _ rfl
      have q2 := hc2' 2 _ rfl
      have q3 := hc2' 3 _ rfl
      have q4 := hc2' 4 _ rfl
      have e5 : EVal.size = 5 := rfl
      simp only [e5, Nat.add_zero] at p0 p1 p2 p3 p4 q0 q1 q2 q3 q4
      have HVA := hid hva
      have HVB := hid hvb
      have hjX : (j : Int) < xs.length := by omega
      clear hc1' hc2' hr1 hr2 hva hvb e5 hs1 hs2 hb1 hb2
      go_wp2_with fail
      refine wp_region_parts [0, 2, 5, 7] [1, 3, 4, 6, 8, 9] [10, 11] (specOf []) (fun w' => Ext wr w') stable_nil (stableC_ext _) (by kernel_rfl) (by kernel_rfl) (Keep.drew (Keep.refl _ _)) ?_
      iterate 4
        (try simp only [Act.put, List.setIfInBounds_toArray, List.set_cons_zero, List.set_cons_succ])
        refine pure_run rfl rfl ?_
        apply Exists.intro
        refine ⟨fun w' => ?_, ?_⟩
        · go_simp
          rfl
      refine pure_nil ?_
      iterate 6
        (try simp only [Act.put, List.setIfInBounds_toArray, List.set_cons_zero, List.set_cons_succ])
        refine growP_run rfl rfl rfl ?_
        apply Exists.intro
        refine ⟨fun w' hC hK => ?_, ?_⟩
        · have x3 := (hC.cell (lt_of_cell x3) id).trans x3
          have y3 := (hC.cell (lt_of_cell y3) id).trans y3
          have p0 := (hC.cell (lt_of_cell p0) id).trans p0
          have p1 := (hC.cell (lt_of_cell p1) id).trans p1
          have p2 := (hC.cell (lt_of_cell p2) id).trans p2
          have p3 := (hC.cell (lt_of_cell p3) id).trans p3
          have p4 := (hC.cell (lt_of_cell p4) id).trans p4
          have q0 := (hC.cell (lt_of_cell q0) id).trans q0
          have q1 := (hC.cell (lt_of_cell q1) id).trans q1
          have q2 := (hC.cell (lt_of_cell q2) id).trans q2
          have q3 := (hC.cell (lt_of_cell q3) id).trans q3
          have q4 := (hC.cell (lt_of_cell q4) id).trans q4
          go_simp
          rfl
      refine growP_nil fun w4 hC hK => ?_
      change wpList _ _ _ (_ :: _ :: []) _ _
      have hC' : Ext wr w4 := hC
      have HC4 := hid hC'
      have HMM := hid (HALL.out xs[j] (List.getElem_mem hlt) _ _ w4 (HVA.out.ext hC') (HVB.out.ext hC'))
      clear hC hC' hK x3 x4 y3 y4 p0 p1 p2 p3 p4 q0 q1 q2 q3 q4 HVA HVB HALL H1 H3
      (try simp only [Act.put, List.setIfInBounds_toArray, List.set_cons_zero, List.set_cons_succ])
      go_wp2_with (go_at_call 37; refine HMM.out.mono ?_; rintro e w5 ⟨rfl, hE5⟩; have HE5 := hid hE5; clear hE5)
      refine NoPanic.normal ?_
      clear HMM
      go_wp2
      exact ⟨⟨j + 1, by omega, by go_num, (HR0.out.ext HC4.out).ext HE5.out⟩, by simp [intOf]; omega⟩
    · obtain rfl : j = xs.length := by omega
      clear HALL H1 H3
      go_wp2_with fail
      go_loopw [7] (fun y w' => y = .int .i64 0 ∧ w' = wr) (fun y _ => 0)
      case atStart => exact ⟨rfl, rfl⟩
      case round =>
        obtain ⟨rfl, rfl⟩ := hrel
        go_wp2_with fail
        go_ret
        exact ⟨rfl, HR.out⟩
/-- Leaves. -/
theorem same_leaf (k : UInt8) (n : Int) (u v : Value) (S1 S2 : BS) (w : World) (hu : VAt w S1 u (.mk k n ⟨#[]⟩ [] [])) (hv : VAt w S2 v (.mk k n ⟨#[]⟩ [] [])) :
    Calls Try.prog 37 #[u, v] w fun e w' => e = .returned (.bool true) ∧ Ext w w' := same_step k n _ [] u v S1 S2 w hu hv fun y hy => by cases hy
/-- The law's 'same', at like lists of leaves. -/
theorem same_list (xs : List V) (u v : Value) (S1 S2 : BS) (w : World) (hu : Sl EVal w S1 u xs) (hv : Sl EVal w S2 v xs) (hf : ∀ x ∈ xs, ∃ k n, x = .mk k n ⟨#[]⟩ [] []) :
    Calls Try.prog 18 #[u, v] w fun e w' => e = .returned (.bool true) ∧ Ext w w' := by
  obtain ⟨A1, c1, rfl, hc1, hm1⟩ := hu.shape
  obtain ⟨A2, c2, rfl, hc2, hm2⟩ := hv.shape
  have H := hid (fun w' (h : w = w') => same_step 0 0 ⟨#[]⟩ xs (.agg #[U8 0, .int .i64 0, .string ⟨#[]⟩, .slice A1 xs.length c1, .slice none 0 0]) (.agg #[U8 0, .int .i64 0, .string ⟨#[]⟩, .slice A2 xs.length c2, .slice none 0 0]) S1 S2 w' (h ▸ ⟨_, _, rfl, hu, Sl.nil _ _⟩) (h ▸ ⟨_, _, rfl, hv, Sl.nil _ _⟩)
    (fun y hy a b w2 ha hb => by obtain ⟨k, n, rfl⟩ := hf y hy; exact same_leaf k n a b S1 S2 w2 ha hb))
  clear hu hv hf hc1 hc2 hm1 hm2
  go_enter Try.func18, Try.ntmps18
  go_wp2_with (go_at_call 37; refine (H.out _ rfl).mono ?_; rintro e w1 ⟨rfl, hE⟩; have HE := hid hE; clear hE)
  go_ret
  exact ⟨rfl, HE.out⟩
end Go.Proofs.Ytimhfkllamimeaa
