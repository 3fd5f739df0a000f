/- The reference of chapter 05: Do. -/
import Derived.Test.YtimhfkllamimeaaSeqRE
import Derived.Test.YtimhfkllamimeaaSeqRF
import Derived.Test.YtimhfkllamimeaaSeqRG
import Derived.Test.YtimhfkllamimeaaSeqG
set_option linter.unusedSimpArgs false
set_option linter.unusedVariables false
namespace Go.Proofs.Ytimhfkllamimeaa
open Go.RowKit

def RDoIs (w : World) (ys : List V) (e : Ending) (w' : World) : Prop := ∃ A c, e = .returned (.tuple #[.slice A ys.length c, .int .i64 0]) ∧ Sl EVal w' (fun _ => True) (.slice A ys.length c) ys ∧ Ext w w'
set_option maxRecDepth 100000 in
set_option maxHeartbeats 6400000 in
theorem rdo_4 (xs ys : List V) (S : BS) (lv : Value) (i j : Int) (vk : UInt8) (vn : Int) (w : World) (hl : Sl EVal w S lv xs) (hf : Flat xs) (hn : xs.length ≤ 100000) (hd : doL xs ⟨4, i, j, nV vk vn⟩ = some ys) :
    Calls Try.prog 17 #[lv, .agg (cmCells 4 i j vk vn).toArray] w (RDoIs w ys) := by
  have hck : checkL xs.length 4 i j = 0 := by
    by_cases hk : checkL xs.length 4 i j = 0
    · exact hk
    · unfold doL at hd; rw [if_neg hk] at hd; cases hd
  have hck2 := check_ok hck
  have hb : Blk (w.alloc (.cells (cmCells 4 i j vk vn).toArray TCOMP)) w.heap.size TCOMP (cmCells 4 i j vk vn).toArray := Blk.new _ _ _
  have hE1 : Ext w (w.alloc (.cells (cmCells 4 i j vk vn).toArray TCOMP)) := (Keep.refl _ _).alloc _
  obtain ⟨A, c, rfl, hlc, hcm⟩ := hl.shape
  have HB := hid hb
  have HE := hid hE1
  have HL := hid hl
  have HF := hid hf
  have HN := hid hn
  have HCK := hid hck
  have HC2 := hid hck2
  have HD := hid hd
  clear hb hE1 hl hf hn hck hck2 hd hcm
  simp only [cmCells]
  go_enter Try.func17, Try.ntmps17
  go_wp2_with fail
  change Calls _ _ _ (w.alloc (.cells (cmCells 4 i j vk vn).toArray TCOMP)) _
  generalize (w.alloc (.cells (cmCells 4 i j vk vn).toArray TCOMP)) = w0 at *
  refine (rcheck_any xs.length 4 _ _ _ _ _ _ _ _ _ i j w0 (by have := HN.out; omega)).mono ?_
  rintro e w1 ⟨rfl, hT⟩
  rw [HCK.out]
  have hb := HB.out.keep hT id
  have HL1 := hid (HL.out.ext EVal.ok (HE.out.ext hT))
  replace HE := hid (HE.out.ext hT)
  replace HB := hid hb
  have b0 := hb.cell 0
  have b1 := hb.cell 1
  have b2 := hb.cell 2
  have b3 := hb.cell 3
  have b4 := hb.cell 4
  have b5 := hb.cell 5
  have b6 := hb.cell 6
  have b7 := hb.cell 7
  have b8 := hb.cell 8
  have b9 := hb.cell 9
  have b10 := hb.cell 10
  have b11 := hb.cell 11
  simp [cmCells] at b0 b1 b2 b3 b4 b5 b6 b7 b8 b9 b10 b11
  clear hb hT HL
  go_wp2_with fail
  refine (rcopy_list xs _ S w1 HL1.out HN.out HF.out).mono ?_
  rintro e w2 ⟨v2, rfl, ho2, _, hE2⟩
  obtain ⟨A2, c2, rfl, hl2, hc2⟩ := ho2.shape
  have HO := hid ho2
  have hz2 := hE2.size
  have HZ := hid (show w.heap.size ≤ w1.heap.size from HE.out.size)
  replace HE := hid (HE.out.ext hE2)
  replace b0 := (hE2.cell (lt_of_cell b0) id).trans b0
  replace b1 := (hE2.cell (lt_of_cell b1) id).trans b1
  replace b2 := (hE2.cell (lt_of_cell b2) id).trans b2
  replace b3 := (hE2.cell (lt_of_cell b3) id).trans b3
  replace b4 := (hE2.cell (lt_of_cell b4) id).trans b4
  replace b5 := (hE2.cell (lt_of_cell b5) id).trans b5
  replace b6 := (hE2.cell (lt_of_cell b6) id).trans b6
  replace b7 := (hE2.cell (lt_of_cell b7) id).trans b7
  replace b8 := (hE2.cell (lt_of_cell b8) id).trans b8
  replace b9 := (hE2.cell (lt_of_cell b9) id).trans b9
  replace b10 := (hE2.cell (lt_of_cell b10) id).trans b10
  replace b11 := (hE2.cell (lt_of_cell b11) id).trans b11
  clear ho2 hE2 HL1
  go_wp2_with fail
  simp only [run_field_l]
  go_wp2_with fail
  refine (rcopy_leaf vk vn _ (fun _ => True) w2 ⟨_, _, rfl, Sl.nil _ _, Sl.nil _ _⟩).mono ?_
  rintro e w3 ⟨rfl, hE3⟩
  have hE4 : Ext w2 (w3.alloc (.cells #[U8 vk, .int .i64 vn, .string ⟨#[]⟩, .slice none 0 0, .slice none 0 0] TVAL)) := hE3.alloc _
  have HO4 := hid (HO.out.ext EVal.ok hE4)
  have HO3 := hid (HO.out.ext EVal.ok hE3)
  have hlb : w.heap.size < w3.heap.size := by have := lt_of_cell b0; have := hE3.size; simp only at *; omega
  replace b0 := (hE3.cell (lt_of_cell b0) id).trans b0
  replace b1 := (hE3.cell (lt_of_cell b1) id).trans b1
  replace b2 := (hE3.cell (lt_of_cell b2) id).trans b2
  replace b3 := (hE3.cell (lt_of_cell b3) id).trans b3
  replace b4 := (hE3.cell (lt_of_cell b4) id).trans b4
  replace b5 := (hE3.cell (lt_of_cell b5) id).trans b5
  replace b6 := (hE3.cell (lt_of_cell b6) id).trans b6
  replace b7 := (hE3.cell (lt_of_cell b7) id).trans b7
  replace b8 := (hE3.cell (lt_of_cell b8) id).trans b8
  replace b9 := (hE3.cell (lt_of_cell b9) id).trans b9
  replace b10 := (hE3.cell (lt_of_cell b10) id).trans b10
  replace b11 := (hE3.cell (lt_of_cell b11) id).trans b11
  have HE3 := hid (HE.out.ext hE3)
  replace HE := hid (HE.out.ext hE4)
  clear hE3 hE4 HO
  obtain ⟨a, rfl, ha⟩ : ∃ a : Nat, i = a ∧ a ≤ xs.length := by
    rcases HC2.out with ⟨_, h1, h2⟩ | ⟨h, _⟩ | ⟨h, _⟩ | ⟨h, _⟩
    · exact ⟨i.toNat, by omega, by omega⟩
    all_goals exact absurd h (by decide)
  have hys : (xs.take a ++ nV vk vn :: xs.drop a) = ys := by
    have h := HD.out
    unfold doL at h
    rw [if_pos HCK.out] at h
    simpa using h
  have HW := hid (with_ok xs (nV vk vn) (fun _ => True) A2 xs.length c2 a _ _ _ _ _ _ (by have := (HO4.out.sl EVal.ok).more EVal.ok (S' := fun _ => True) (fun _ _ _ => trivial); exact this) (nV_rd _ _ vk vn) ha HN.out)
  rw [hys] at HW
  clear hys
  clear HO3 HO4
  go_wp2_with (go_at_call 35; refine HW.out.mono ?_; rintro e w5 ⟨v5, rfl, ho5, hE5⟩; obtain ⟨A5, c5, rfl, hl5, hc5⟩ := ho5.shape; have HO5 := hid ho5; have HE5 := hid hE5; clear ho5 hE5)
  go_ret2
  exact ⟨A5, c5, rfl, (HO5.out.sl EVal.ok).more EVal.ok fun _ _ _ => trivial, HE.out.ext HE5.out⟩
set_option maxRecDepth 100000 in
set_option maxHeartbeats 6400000 in
theorem rdo_5 (xs ys : List V) (S : BS) (lv : Value) (i j : Int) (vk : UInt8) (vn : Int) (w : World) (hl : Sl EVal w S lv xs) (hf : Flat xs) (hn : xs.length ≤ 100000) (hd : doL xs ⟨5, i, j, nV vk vn⟩ = some ys) :
    Calls Try.prog 17 #[lv, .agg (cmCells 5 i j vk vn).toArray] w (RDoIs w ys) := by
  have hck : checkL xs.length 5 i j = 0 := by
    by_cases hk : checkL xs.length 5 i j = 0
    · exact hk
    · unfold doL at hd; rw [if_neg hk] at hd; cases hd
  have hck2 := check_ok hck
  have hb : Blk (w.alloc (.cells (cmCells 5 i j vk vn).toArray TCOMP)) w.heap.size TCOMP (cmCells 5 i j vk vn).toArray := Blk.new _ _ _
  have hE1 : Ext w (w.alloc (.cells (cmCells 5 i j vk vn).toArray TCOMP)) := (Keep.refl _ _).alloc _
  obtain ⟨A, c, rfl, hlc, hcm⟩ := hl.shape
  have HB := hid hb
  have HE := hid hE1
  have HL := hid hl
  have HF := hid hf
  have HN := hid hn
  have HCK := hid hck
  have HC2 := hid hck2
  have HD := hid hd
  clear hb hE1 hl hf hn hck hck2 hd hcm
  simp only [cmCells]
  go_enter Try.func17, Try.ntmps17
  go_wp2_with fail
  change Calls _ _ _ (w.alloc (.cells (cmCells 5 i j vk vn).toArray TCOMP)) _
  generalize (w.alloc (.cells (cmCells 5 i j vk vn).toArray TCOMP)) = w0 at *
  refine (rcheck_any xs.length 5 _ _ _ _ _ _ _ _ _ i j w0 (by have := HN.out; omega)).mono ?_
  rintro e w1 ⟨rfl, hT⟩
  rw [HCK.out]
  have hb := HB.out.keep hT id
  have HL1 := hid (HL.out.ext EVal.ok (HE.out.ext hT))
  replace HE := hid (HE.out.ext hT)
  replace HB := hid hb
  have b0 := hb.cell 0
  have b1 := hb.cell 1
  have b2 := hb.cell 2
  have b3 := hb.cell 3
  have b4 := hb.cell 4
  have b5 := hb.cell 5
  have b6 := hb.cell 6
  have b7 := hb.cell 7
  have b8 := hb.cell 8
  have b9 := hb.cell 9
  have b10 := hb.cell 10
  have b11 := hb.cell 11
  simp [cmCells] at b0 b1 b2 b3 b4 b5 b6 b7 b8 b9 b10 b11
  clear hb hT HL
  go_wp2_with fail
  refine (rcopy_list xs _ S w1 HL1.out HN.out HF.out).mono ?_
  rintro e w2 ⟨v2, rfl, ho2, _, hE2⟩
  obtain ⟨A2, c2, rfl, hl2, hc2⟩ := ho2.shape
  have HO := hid ho2
  have hz2 := hE2.size
  have HZ := hid (show w.heap.size ≤ w1.heap.size from HE.out.size)
  replace HE := hid (HE.out.ext hE2)
  replace b0 := (hE2.cell (lt_of_cell b0) id).trans b0
  replace b1 := (hE2.cell (lt_of_cell b1) id).trans b1
  replace b2 := (hE2.cell (lt_of_cell b2) id).trans b2
  replace b3 := (hE2.cell (lt_of_cell b3) id).trans b3
  replace b4 := (hE2.cell (lt_of_cell b4) id).trans b4
  replace b5 := (hE2.cell (lt_of_cell b5) id).trans b5
  replace b6 := (hE2.cell (lt_of_cell b6) id).trans b6
  replace b7 := (hE2.cell (lt_of_cell b7) id).trans b7
  replace b8 := (hE2.cell (lt_of_cell b8) id).trans b8
  replace b9 := (hE2.cell (lt_of_cell b9) id).trans b9
  replace b10 := (hE2.cell (lt_of_cell b10) id).trans b10
  replace b11 := (hE2.cell (lt_of_cell b11) id).trans b11
  clear ho2 hE2 HL1
  go_wp2_with fail
  simp only [run_field_l]
  go_wp2_with fail
  refine (rcopy_leaf vk vn _ (fun _ => True) w2 ⟨_, _, rfl, Sl.nil _ _, Sl.nil _ _⟩).mono ?_
  rintro e w3 ⟨rfl, hE3⟩
  have hE4 : Ext w2 (w3.alloc (.cells #[U8 vk, .int .i64 vn, .string ⟨#[]⟩, .slice none 0 0, .slice none 0 0] TVAL)) := hE3.alloc _
  have HO4 := hid (HO.out.ext EVal.ok hE4)
  have HO3 := hid (HO.out.ext EVal.ok hE3)
  have hlb : w.heap.size < w3.heap.size := by have := lt_of_cell b0; have := hE3.size; simp only at *; omega
  replace b0 := (hE3.cell (lt_of_cell b0) id).trans b0
  replace b1 := (hE3.cell (lt_of_cell b1) id).trans b1
  replace b2 := (hE3.cell (lt_of_cell b2) id).trans b2
  replace b3 := (hE3.cell (lt_of_cell b3) id).trans b3
  replace b4 := (hE3.cell (lt_of_cell b4) id).trans b4
  replace b5 := (hE3.cell (lt_of_cell b5) id).trans b5
  replace b6 := (hE3.cell (lt_of_cell b6) id).trans b6
  replace b7 := (hE3.cell (lt_of_cell b7) id).trans b7
  replace b8 := (hE3.cell (lt_of_cell b8) id).trans b8
  replace b9 := (hE3.cell (lt_of_cell b9) id).trans b9
  replace b10 := (hE3.cell (lt_of_cell b10) id).trans b10
  replace b11 := (hE3.cell (lt_of_cell b11) id).trans b11
  have HE3 := hid (HE.out.ext hE3)
  replace HE := hid (HE.out.ext hE4)
  clear hE3 hE4 HO
  obtain ⟨a, rfl, ha⟩ : ∃ a : Nat, i = a ∧ a < xs.length := by
    rcases HC2.out with ⟨h, _⟩ | ⟨_, h1, h2⟩ | ⟨h, _⟩ | ⟨h, _⟩
    case inr.inl => exact ⟨i.toNat, by omega, by omega⟩
    all_goals exact absurd h (by decide)
  have hys : xs.eraseIdx a = ys := by
    have h := HD.out
    unfold doL at h
    rw [if_pos HCK.out] at h
    simpa using h
  have HW := hid (without_ok xs (fun _ => True) A2 xs.length c2 a _ (by have := (HO4.out.sl EVal.ok).more EVal.ok (S' := fun _ => True) (fun _ _ _ => trivial); exact this) ha HN.out)
  rw [hys] at HW
  clear hys
  clear HO3 HO4
  go_wp2_with (go_at_call 36; refine HW.out.mono ?_; rintro e w5 ⟨v5, rfl, ho5, hE5⟩; obtain ⟨A5, c5, rfl, hl5, hc5⟩ := ho5.shape; have HO5 := hid ho5; have HE5 := hid hE5; clear ho5 hE5)
  go_ret2
  exact ⟨A5, c5, rfl, (HO5.out.sl EVal.ok).more EVal.ok fun _ _ _ => trivial, HE.out.ext HE5.out⟩
end Go.Proofs.Ytimhfkllamimeaa
