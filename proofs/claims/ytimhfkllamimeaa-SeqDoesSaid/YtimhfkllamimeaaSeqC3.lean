/- The law's 'in'. -/
import Derived.Test.YtimhfkllamimeaaSeqC2
set_option linter.unusedSimpArgs false
set_option linter.unusedVariables false
namespace Go.Proofs.Ytimhfkllamimeaa
open Go.RowKit

theorem blk_two (w : World) (t : TypeId) (a b : Array Value) : Blk ((w.alloc (.cells a t)).alloc (.cells b TCOMP)) w.heap.size t a ∧ Blk ((w.alloc (.cells a t)).alloc (.cells b TCOMP)) (w.heap.size + 1) TCOMP b ∧ Ext w ((w.alloc (.cells a t)).alloc (.cells b TCOMP)) := by
  have := Blk.new (w.alloc (.cells a t)) TCOMP b
  rw [World.size_alloc] at this
  exact ⟨(Blk.new _ _ _).alloc _, this, ((Keep.refl _ _).alloc _).alloc _⟩
theorem blk_set12 {w : World} {b : Nat} (h : Blk w b TCOMP (cmCells 0 0 0 0 0).toArray) (u0 u1 u2 u3 u4 u5 u6 u7 u8 u9 u10 u11 : Value) (o : Obj) : Blk (((((((((((((w.setCell ⟨b, 0, none⟩ u0).setCell ⟨b, 1, none⟩ u1).setCell ⟨b, 2, none⟩ u2).setCell ⟨b, 3, none⟩ u3).setCell ⟨b, 4, none⟩ u4).setCell ⟨b, 5, none⟩ u5).setCell ⟨b, 6, none⟩ u6).setCell ⟨b, 7, none⟩ u7).setCell ⟨b, 8, none⟩ u8).setCell ⟨b, 9, none⟩ u9).setCell ⟨b, 10, none⟩ u10).setCell ⟨b, 11, none⟩ u11).alloc o) b TCOMP #[u0, u1, u2, u3, u4, u5, u6, u7, u8, u9, u10, u11] ∧ Keep (fun k => k = b) w (((((((((((((w.setCell ⟨b, 0, none⟩ u0).setCell ⟨b, 1, none⟩ u1).setCell ⟨b, 2, none⟩ u2).setCell ⟨b, 3, none⟩ u3).setCell ⟨b, 4, none⟩ u4).setCell ⟨b, 5, none⟩ u5).setCell ⟨b, 6, none⟩ u6).setCell ⟨b, 7, none⟩ u7).setCell ⟨b, 8, none⟩ u8).setCell ⟨b, 9, none⟩ u9).setCell ⟨b, 10, none⟩ u10).setCell ⟨b, 11, none⟩ u11).alloc o) := by
  refine ⟨?_, Keep.alloc (Keep.set1 (Keep.set1 (Keep.set1 (Keep.set1 (Keep.set1 (Keep.set1 (Keep.set1 (Keep.set1 (Keep.set1 (Keep.set1 (Keep.set1 (Keep.set1 (Keep.refl (fun k => k = b) w) 0 u0) 1 u1) 2 u2) 3 u3) 4 u4) 5 u5) 6 u6) 7 u7) 8 u8) 9 u9) 10 u10) 11 u11) o⟩
  have g := Blk.alloc (Blk.set_ (Blk.set_ (Blk.set_ (Blk.set_ (Blk.set_ (Blk.set_ (Blk.set_ (Blk.set_ (Blk.set_ (Blk.set_ (Blk.set_ (Blk.set_ h 0 u0) 1 u1) 2 u2) 3 u3) 4 u4) 5 u5) 6 u6) 7 u7) 8 u8) 9 u9) 10 u10) 11 u11) o
  have e : (((((((((((((cmCells 0 0 0 0 0).toArray.setIfInBounds 0 u0).setIfInBounds 1 u1).setIfInBounds 2 u2).setIfInBounds 3 u3).setIfInBounds 4 u4).setIfInBounds 5 u5).setIfInBounds 6 u6).setIfInBounds 7 u7).setIfInBounds 8 u8).setIfInBounds 9 u9).setIfInBounds 10 u10).setIfInBounds 11 u11) = #[u0, u1, u2, u3, u4, u5, u6, u7, u8, u9, u10, u11] := by kernel_rfl
  rw [e] at g
  exact g
set_option maxHeartbeats 6400000 in
/-- What 'in' gives may be done. -/
theorem in_ok (k : UInt8) (i j x : Int) (n : Nat) (w : World) (hn : n ≤ 1000) (hi : (Lit.int .i64 i).wf = true) (hj : (Lit.int .i64 j).wf = true) :
    Calls Try.prog 26 #[.agg #[U8 k, .int .i64 i, .int .i64 j, .int .i64 x], .int .i64 n] w fun e w' => (∃ k' i' j' vk vn, e = .returned (.agg (cmCells k' i' j' vk vn).toArray) ∧ checkL n k' i' j' = 0 ∧ 0 ≤ i' ∧ i' ≤ n ∧ j' ≤ n ∧ 0 ≤ j') ∧ Ext w w' := by
  obtain ⟨i0, hi0, _⟩ := run_max0 i hi
  obtain ⟨j0, hj0, _⟩ := run_max0 j hj
  clear hi hj
  obtain ⟨p, hp, ep⟩ := tmod_nat i0 (n + 1) (by omega)
  have ep : (i0 : Int).tmod ((n : Int) + 1) = p := by rw [← ep]; congr 1
  have enz1 : (n : Int) + 1 ≠ 0 := by omega
  rcases Nat.eq_zero_or_pos n with h0 | h0
  · subst h0
    have HC := hid (fun w' => comp_ok 0 i j x w')
    rw [show kL 0 = 4 from rfl] at HC
    rw [show jL 4 j = 0 from rfl, show vkL 4 = 2 from rfl, show vnL 4 x = x from rfl] at HC
    go_enter Try.func26, Try.ntmps26
    go_wp2_with fail
    change Calls _ _ #[.agg #[U8 0, .int .i64 i, .int .i64 j, .int .i64 x]] ((w.alloc (.cells #[U8 0, .int .i64 i, .int .i64 j, .int .i64 x] 35)).alloc (.cells (cmCells 0 0 0 0 0).toArray TCOMP)) _
    obtain ⟨hb0, hb1, hE0⟩ := blk_two w 35 #[U8 0, .int .i64 i, .int .i64 j, .int .i64 x] (cmCells 0 0 0 0 0).toArray
    generalize ((w.alloc (.cells #[U8 0, .int .i64 i, .int .i64 j, .int .i64 x] 35)).alloc (.cells (cmCells 0 0 0 0 0).toArray TCOMP)) = w0 at *
    refine (HC.out w0).mono ?_
    rintro e w1 ⟨rfl, hE1⟩
    have hb0 := hb0.keep hE1 id
    have hb1 := hb1.keep hE1 id
    have HE := hid (hE0.ext hE1)
    have HZ := hid (show w.heap.size < w1.heap.size ∧ w.heap.size + 1 < w1.heap.size from ⟨hb0.lt, hb1.lt⟩)
    have hl0 : w.heap.size < w1.heap.size := HZ.out.1
    have hl1 : w.heap.size + 1 < w1.heap.size := HZ.out.2
    have q1 := hb0.cell 1
    have q2 := hb0.cell 2
    simp at q1 q2
    have r0 := hb1.cell 0
    have r1 := hb1.cell 1
    have r2 := hb1.cell 2
    have r3 := hb1.cell 3
    have r4 := hb1.cell 4
    have r5 := hb1.cell 5
    have r6 := hb1.cell 6
    have r7 := hb1.cell 7
    have r8 := hb1.cell 8
    have r9 := hb1.cell 9
    have r10 := hb1.cell 10
    have r11 := hb1.cell 11
    simp [cmCells] at r0 r1 r2 r3 r4 r5 r6 r7 r8 r9 r10 r11
    have z0 := hb1.frozen 0
    have z1 := hb1.frozen 1
    have z2 := hb1.frozen 2
    have z3 := hb1.frozen 3
    have z4 := hb1.frozen 4
    have z5 := hb1.frozen 5
    have z6 := hb1.frozen 6
    have z7 := hb1.frozen 7
    have z8 := hb1.frozen 8
    have z9 := hb1.frozen 9
    have z10 := hb1.frozen 10
    have z11 := hb1.frozen 11
    have HB1 := hid hb1
    clear hb0 hb1 hE0 hE1 HC
    simp only [cmCells]
    go_wp2
    change bodyPost _ _ _ _ _ (((((((((((((w1.setCell ⟨w.heap.size + 1, 0, none⟩ (U8 4)).setCell ⟨w.heap.size + 1, 1, none⟩ (.slice none 0 0)).setCell ⟨w.heap.size + 1, 2, none⟩ (.string ⟨#[]⟩)).setCell ⟨w.heap.size + 1, 3, none⟩ (.int .i64 0)).setCell ⟨w.heap.size + 1, 4, none⟩ (.int .i64 0)).setCell ⟨w.heap.size + 1, 5, none⟩ (.int .i64 0)).setCell ⟨w.heap.size + 1, 6, none⟩ (U8 2)).setCell ⟨w.heap.size + 1, 7, none⟩ (.int .i64 x)).setCell ⟨w.heap.size + 1, 8, none⟩ (.string ⟨#[]⟩)).setCell ⟨w.heap.size + 1, 9, none⟩ (.slice none 0 0)).setCell ⟨w.heap.size + 1, 10, none⟩ (.slice none 0 0)).setCell ⟨w.heap.size + 1, 11, none⟩ (.string ⟨#[]⟩)).alloc (.cells (cmCells 4 0 0 2 x).toArray TCOMP))
    obtain ⟨hB, hK⟩ := blk_set12 HB1.out (U8 4) (.slice none 0 0) (.string ⟨#[]⟩) (.int .i64 0) (.int .i64 0) (.int .i64 0) (U8 2) (.int .i64 x) (.string ⟨#[]⟩) (.slice none 0 0) (.slice none 0 0) (.string ⟨#[]⟩) (.cells (cmCells 4 0 0 2 x).toArray TCOMP)
    generalize (((((((((((((w1.setCell ⟨w.heap.size + 1, 0, none⟩ (U8 4)).setCell ⟨w.heap.size + 1, 1, none⟩ (.slice none 0 0)).setCell ⟨w.heap.size + 1, 2, none⟩ (.string ⟨#[]⟩)).setCell ⟨w.heap.size + 1, 3, none⟩ (.int .i64 0)).setCell ⟨w.heap.size + 1, 4, none⟩ (.int .i64 0)).setCell ⟨w.heap.size + 1, 5, none⟩ (.int .i64 0)).setCell ⟨w.heap.size + 1, 6, none⟩ (U8 2)).setCell ⟨w.heap.size + 1, 7, none⟩ (.int .i64 x)).setCell ⟨w.heap.size + 1, 8, none⟩ (.string ⟨#[]⟩)).setCell ⟨w.heap.size + 1, 9, none⟩ (.slice none 0 0)).setCell ⟨w.heap.size + 1, 10, none⟩ (.slice none 0 0)).setCell ⟨w.heap.size + 1, 11, none⟩ (.string ⟨#[]⟩)).alloc (.cells (cmCells 4 0 0 2 x).toArray TCOMP)) = W at *
    clear r0 z0 r1 z1 r2 z2 r3 z3 r4 z4 r5 z5 r6 z6 r7 z7 r8 z8 r9 z9 r10 z10 r11 z11
    have c0 := hB.cell 0
    have c1 := hB.cell 1
    have c2 := hB.cell 2
    have c3 := hB.cell 3
    have c4 := hB.cell 4
    have c5 := hB.cell 5
    have c6 := hB.cell 6
    have c7 := hB.cell 7
    have c8 := hB.cell 8
    have c9 := hB.cell 9
    have c10 := hB.cell 10
    have c11 := hB.cell 11
    simp at c0 c1 c2 c3 c4 c5 c6 c7 c8 c9 c10 c11
    refine bodyPost_ret (v := .agg (cmCells 4 0 0 2 x).toArray) (by simp [results, Try.results26, go_sem, cmCells, c0, c1, c2, c3, c4, c5, c6, c7, c8, c9, c10, c11]) rfl ⟨⟨_, _, _, _, _, rfl, check_of (.inl ⟨rfl, by omega, by omega⟩), by omega, by omega, by omega, by omega⟩, ?_⟩
    exact HE.out.trans hK fun q hq e => by omega
  obtain ⟨m, hm, em⟩ := tmod_nat i0 n h0
  obtain ⟨q, hq, eq⟩ := tmod_nat j0 n h0
  have enz : (n : Int) ≠ 0 := by omega
  rcases kL_cases k with ⟨hk, _⟩ | ⟨hk, _⟩ | ⟨hk, _⟩ | ⟨hk, _⟩
  · have HC := hid (fun w' => comp_ok k i j x w')
    rw [hk] at HC
    clear hk
    rw [show jL 4 j = 0 from rfl, show vkL 4 = 2 from rfl, show vnL 4 x = x from rfl] at HC
    go_enter Try.func26, Try.ntmps26
    go_wp2_with fail
    change Calls _ _ #[.agg #[U8 k, .int .i64 i, .int .i64 j, .int .i64 x]] ((w.alloc (.cells #[U8 k, .int .i64 i, .int .i64 j, .int .i64 x] 35)).alloc (.cells (cmCells 0 0 0 0 0).toArray TCOMP)) _
    obtain ⟨hb0, hb1, hE0⟩ := blk_two w 35 #[U8 k, .int .i64 i, .int .i64 j, .int .i64 x] (cmCells 0 0 0 0 0).toArray
    generalize ((w.alloc (.cells #[U8 k, .int .i64 i, .int .i64 j, .int .i64 x] 35)).alloc (.cells (cmCells 0 0 0 0 0).toArray TCOMP)) = w0 at *
    refine (HC.out w0).mono ?_
    rintro e w1 ⟨rfl, hE1⟩
    have hb0 := hb0.keep hE1 id
    have hb1 := hb1.keep hE1 id
    have HE := hid (hE0.ext hE1)
    have HZ := hid (show w.heap.size < w1.heap.size ∧ w.heap.size + 1 < w1.heap.size from ⟨hb0.lt, hb1.lt⟩)
    have hl0 : w.heap.size < w1.heap.size := HZ.out.1
    have hl1 : w.heap.size + 1 < w1.heap.size := HZ.out.2
    have q1 := hb0.cell 1
    have q2 := hb0.cell 2
    simp at q1 q2
    have r0 := hb1.cell 0
    have r1 := hb1.cell 1
    have r2 := hb1.cell 2
    have r3 := hb1.cell 3
    have r4 := hb1.cell 4
    have r5 := hb1.cell 5
    have r6 := hb1.cell 6
    have r7 := hb1.cell 7
    have r8 := hb1.cell 8
    have r9 := hb1.cell 9
    have r10 := hb1.cell 10
    have r11 := hb1.cell 11
    simp [cmCells] at r0 r1 r2 r3 r4 r5 r6 r7 r8 r9 r10 r11
    have z0 := hb1.frozen 0
    have z1 := hb1.frozen 1
    have z2 := hb1.frozen 2
    have z3 := hb1.frozen 3
    have z4 := hb1.frozen 4
    have z5 := hb1.frozen 5
    have z6 := hb1.frozen 6
    have z7 := hb1.frozen 7
    have z8 := hb1.frozen 8
    have z9 := hb1.frozen 9
    have z10 := hb1.frozen 10
    have z11 := hb1.frozen 11
    have HB1 := hid hb1
    clear hb0 hb1 hE0 hE1 HC
    simp only [cmCells]
    go_wp2
    change bodyPost _ _ _ _ _ (((((((((((((w1.setCell ⟨w.heap.size + 1, 0, none⟩ (U8 4)).setCell ⟨w.heap.size + 1, 1, none⟩ (.slice none 0 0)).setCell ⟨w.heap.size + 1, 2, none⟩ (.string ⟨#[]⟩)).setCell ⟨w.heap.size + 1, 3, none⟩ (.int .i64 (p : Int))).setCell ⟨w.heap.size + 1, 4, none⟩ (.int .i64 0)).setCell ⟨w.heap.size + 1, 5, none⟩ (.int .i64 0)).setCell ⟨w.heap.size + 1, 6, none⟩ (U8 2)).setCell ⟨w.heap.size + 1, 7, none⟩ (.int .i64 x)).setCell ⟨w.heap.size + 1, 8, none⟩ (.string ⟨#[]⟩)).setCell ⟨w.heap.size + 1, 9, none⟩ (.slice none 0 0)).setCell ⟨w.heap.size + 1, 10, none⟩ (.slice none 0 0)).setCell ⟨w.heap.size + 1, 11, none⟩ (.string ⟨#[]⟩)).alloc (.cells (cmCells 4 (p : Int) 0 2 x).toArray TCOMP))
    obtain ⟨hB, hK⟩ := blk_set12 HB1.out (U8 4) (.slice none 0 0) (.string ⟨#[]⟩) (.int .i64 (p : Int)) (.int .i64 0) (.int .i64 0) (U8 2) (.int .i64 x) (.string ⟨#[]⟩) (.slice none 0 0) (.slice none 0 0) (.string ⟨#[]⟩) (.cells (cmCells 4 (p : Int) 0 2 x).toArray TCOMP)
    generalize (((((((((((((w1.setCell ⟨w.heap.size + 1, 0, none⟩ (U8 4)).setCell ⟨w.heap.size + 1, 1, none⟩ (.slice none 0 0)).setCell ⟨w.heap.size + 1, 2, none⟩ (.string ⟨#[]⟩)).setCell ⟨w.heap.size + 1, 3, none⟩ (.int .i64 (p : Int))).setCell ⟨w.heap.size + 1, 4, none⟩ (.int .i64 0)).setCell ⟨w.heap.size + 1, 5, none⟩ (.int .i64 0)).setCell ⟨w.heap.size + 1, 6, none⟩ (U8 2)).setCell ⟨w.heap.size + 1, 7, none⟩ (.int .i64 x)).setCell ⟨w.heap.size + 1, 8, none⟩ (.string ⟨#[]⟩)).setCell ⟨w.heap.size + 1, 9, none⟩ (.slice none 0 0)).setCell ⟨w.heap.size + 1, 10, none⟩ (.slice none 0 0)).setCell ⟨w.heap.size + 1, 11, none⟩ (.string ⟨#[]⟩)).alloc (.cells (cmCells 4 (p : Int) 0 2 x).toArray TCOMP)) = W at *
    clear r0 z0 r1 z1 r2 z2 r3 z3 r4 z4 r5 z5 r6 z6 r7 z7 r8 z8 r9 z9 r10 z10 r11 z11
    have c0 := hB.cell 0
    have c1 := hB.cell 1
    have c2 := hB.cell 2
    have c3 := hB.cell 3
    have c4 := hB.cell 4
    have c5 := hB.cell 5
    have c6 := hB.cell 6
    have c7 := hB.cell 7
    have c8 := hB.cell 8
    have c9 := hB.cell 9
    have c10 := hB.cell 10
    have c11 := hB.cell 11
    simp at c0 c1 c2 c3 c4 c5 c6 c7 c8 c9 c10 c11
    refine bodyPost_ret (v := .agg (cmCells 4 (p : Int) 0 2 x).toArray) (by simp [results, Try.results26, go_sem, cmCells, c0, c1, c2, c3, c4, c5, c6, c7, c8, c9, c10, c11]) rfl ⟨⟨_, _, _, _, _, rfl, check_of (.inl ⟨rfl, by omega, by omega⟩), by omega, by omega, by omega, by omega⟩, ?_⟩
    exact HE.out.trans hK fun q hq e => by omega
  · have HC := hid (fun w' => comp_ok k i j x w')
    rw [hk] at HC
    clear hk
    rw [show jL 5 j = 0 from rfl, show vkL 5 = 0 from rfl, show vnL 5 x = 0 from rfl] at HC
    go_enter Try.func26, Try.ntmps26
    go_wp2_with fail
    change Calls _ _ #[.agg #[U8 k, .int .i64 i, .int .i64 j, .int .i64 x]] ((w.alloc (.cells #[U8 k, .int .i64 i, .int .i64 j, .int .i64 x] 35)).alloc (.cells (cmCells 0 0 0 0 0).toArray TCOMP)) _
    obtain ⟨hb0, hb1, hE0⟩ := blk_two w 35 #[U8 k, .int .i64 i, .int .i64 j, .int .i64 x] (cmCells 0 0 0 0 0).toArray
    generalize ((w.alloc (.cells #[U8 k, .int .i64 i, .int .i64 j, .int .i64 x] 35)).alloc (.cells (cmCells 0 0 0 0 0).toArray TCOMP)) = w0 at *
    refine (HC.out w0).mono ?_
    rintro e w1 ⟨rfl, hE1⟩
    have hb0 := hb0.keep hE1 id
    have hb1 := hb1.keep hE1 id
    have HE := hid (hE0.ext hE1)
    have HZ := hid (show w.heap.size < w1.heap.size ∧ w.heap.size + 1 < w1.heap.size from ⟨hb0.lt, hb1.lt⟩)
    have hl0 : w.heap.size < w1.heap.size := HZ.out.1
    have hl1 : w.heap.size + 1 < w1.heap.size := HZ.out.2
    have q1 := hb0.cell 1
    have q2 := hb0.cell 2
    simp at q1 q2
    have r0 := hb1.cell 0
    have r1 := hb1.cell 1
    have r2 := hb1.cell 2
    have r3 := hb1.cell 3
    have r4 := hb1.cell 4
    have r5 := hb1.cell 5
    have r6 := hb1.cell 6
    have r7 := hb1.cell 7
    have r8 := hb1.cell 8
    have r9 := hb1.cell 9
    have r10 := hb1.cell 10
    have r11 := hb1.cell 11
    simp [cmCells] at r0 r1 r2 r3 r4 r5 r6 r7 r8 r9 r10 r11
    have z0 := hb1.frozen 0
    have z1 := hb1.frozen 1
    have z2 := hb1.frozen 2
    have z3 := hb1.frozen 3
    have z4 := hb1.frozen 4
    have z5 := hb1.frozen 5
    have z6 := hb1.frozen 6
    have z7 := hb1.frozen 7
    have z8 := hb1.frozen 8
    have z9 := hb1.frozen 9
    have z10 := hb1.frozen 10
    have z11 := hb1.frozen 11
    have HB1 := hid hb1
    clear hb0 hb1 hE0 hE1 HC
    simp only [cmCells]
    go_wp2
    change bodyPost _ _ _ _ _ (((((((((((((w1.setCell ⟨w.heap.size + 1, 0, none⟩ (U8 5)).setCell ⟨w.heap.size + 1, 1, none⟩ (.slice none 0 0)).setCell ⟨w.heap.size + 1, 2, none⟩ (.string ⟨#[]⟩)).setCell ⟨w.heap.size + 1, 3, none⟩ (.int .i64 (m : Int))).setCell ⟨w.heap.size + 1, 4, none⟩ (.int .i64 0)).setCell ⟨w.heap.size + 1, 5, none⟩ (.int .i64 0)).setCell ⟨w.heap.size + 1, 6, none⟩ (U8 0)).setCell ⟨w.heap.size + 1, 7, none⟩ (.int .i64 0)).setCell ⟨w.heap.size + 1, 8, none⟩ (.string ⟨#[]⟩)).setCell ⟨w.heap.size + 1, 9, none⟩ (.slice none 0 0)).setCell ⟨w.heap.size + 1, 10, none⟩ (.slice none 0 0)).setCell ⟨w.heap.size + 1, 11, none⟩ (.string ⟨#[]⟩)).alloc (.cells (cmCells 5 (m : Int) 0 0 0).toArray TCOMP))
    obtain ⟨hB, hK⟩ := blk_set12 HB1.out (U8 5) (.slice none 0 0) (.string ⟨#[]⟩) (.int .i64 (m : Int)) (.int .i64 0) (.int .i64 0) (U8 0) (.int .i64 0) (.string ⟨#[]⟩) (.slice none 0 0) (.slice none 0 0) (.string ⟨#[]⟩) (.cells (cmCells 5 (m : Int) 0 0 0).toArray TCOMP)
    generalize (((((((((((((w1.setCell ⟨w.heap.size + 1, 0, none⟩ (U8 5)).setCell ⟨w.heap.size + 1, 1, none⟩ (.slice none 0 0)).setCell ⟨w.heap.size + 1, 2, none⟩ (.string ⟨#[]⟩)).setCell ⟨w.heap.size + 1, 3, none⟩ (.int .i64 (m : Int))).setCell ⟨w.heap.size + 1, 4, none⟩ (.int .i64 0)).setCell ⟨w.heap.size + 1, 5, none⟩ (.int .i64 0)).setCell ⟨w.heap.size + 1, 6, none⟩ (U8 0)).setCell ⟨w.heap.size + 1, 7, none⟩ (.int .i64 0)).setCell ⟨w.heap.size + 1, 8, none⟩ (.string ⟨#[]⟩)).setCell ⟨w.heap.size + 1, 9, none⟩ (.slice none 0 0)).setCell ⟨w.heap.size + 1, 10, none⟩ (.slice none 0 0)).setCell ⟨w.heap.size + 1, 11, none⟩ (.string ⟨#[]⟩)).alloc (.cells (cmCells 5 (m : Int) 0 0 0).toArray TCOMP)) = W at *
    clear r0 z0 r1 z1 r2 z2 r3 z3 r4 z4 r5 z5 r6 z6 r7 z7 r8 z8 r9 z9 r10 z10 r11 z11
    have c0 := hB.cell 0
    have c1 := hB.cell 1
    have c2 := hB.cell 2
    have c3 := hB.cell 3
    have c4 := hB.cell 4
    have c5 := hB.cell 5
    have c6 := hB.cell 6
    have c7 := hB.cell 7
    have c8 := hB.cell 8
    have c9 := hB.cell 9
    have c10 := hB.cell 10
    have c11 := hB.cell 11
    simp at c0 c1 c2 c3 c4 c5 c6 c7 c8 c9 c10 c11
    refine bodyPost_ret (v := .agg (cmCells 5 (m : Int) 0 0 0).toArray) (by simp [results, Try.results26, go_sem, cmCells, c0, c1, c2, c3, c4, c5, c6, c7, c8, c9, c10, c11]) rfl ⟨⟨_, _, _, _, _, rfl, check_of (.inr (.inl ⟨rfl, by omega, by omega⟩)), by omega, by omega, by omega, by omega⟩, ?_⟩
    exact HE.out.trans hK fun q hq e => by omega
  · have HC := hid (fun w' => comp_ok k i j x w')
    rw [hk] at HC
    clear hk
    rw [show jL 6 j = 0 from rfl, show vkL 6 = 2 from rfl, show vnL 6 x = x from rfl] at HC
    go_enter Try.func26, Try.ntmps26
    go_wp2_with fail
    change Calls _ _ #[.agg #[U8 k, .int .i64 i, .int .i64 j, .int .i64 x]] ((w.alloc (.cells #[U8 k, .int .i64 i, .int .i64 j, .int .i64 x] 35)).alloc (.cells (cmCells 0 0 0 0 0).toArray TCOMP)) _
    obtain ⟨hb0, hb1, hE0⟩ := blk_two w 35 #[U8 k, .int .i64 i, .int .i64 j, .int .i64 x] (cmCells 0 0 0 0 0).toArray
    generalize ((w.alloc (.cells #[U8 k, .int .i64 i, .int .i64 j, .int .i64 x] 35)).alloc (.cells (cmCells 0 0 0 0 0).toArray TCOMP)) = w0 at *
    refine (HC.out w0).mono ?_
    rintro e w1 ⟨rfl, hE1⟩
    have hb0 := hb0.keep hE1 id
    have hb1 := hb1.keep hE1 id
    have HE := hid (hE0.ext hE1)
    have HZ := hid (show w.heap.size < w1.heap.size ∧ w.heap.size + 1 < w1.heap.size from ⟨hb0.lt, hb1.lt⟩)
    have hl0 : w.heap.size < w1.heap.size := HZ.out.1
    have hl1 : w.heap.size + 1 < w1.heap.size := HZ.out.2
    have q1 := hb0.cell 1
    have q2 := hb0.cell 2
    simp at q1 q2
    have r0 := hb1.cell 0
    have r1 := hb1.cell 1
    have r2 := hb1.cell 2
    have r3 := hb1.cell 3
    have r4 := hb1.cell 4
    have r5 := hb1.cell 5
    have r6 := hb1.cell 6
    have r7 := hb1.cell 7
    have r8 := hb1.cell 8
    have r9 := hb1.cell 9
    have r10 := hb1.cell 10
    have r11 := hb1.cell 11
    simp [cmCells] at r0 r1 r2 r3 r4 r5 r6 r7 r8 r9 r10 r11
    have z0 := hb1.frozen 0
    have z1 := hb1.frozen 1
    have z2 := hb1.frozen 2
    have z3 := hb1.frozen 3
    have z4 := hb1.frozen 4
    have z5 := hb1.frozen 5
    have z6 := hb1.frozen 6
    have z7 := hb1.frozen 7
    have z8 := hb1.frozen 8
    have z9 := hb1.frozen 9
    have z10 := hb1.frozen 10
    have z11 := hb1.frozen 11
    have HB1 := hid hb1
    clear hb0 hb1 hE0 hE1 HC
    simp only [cmCells]
    go_wp2
    change bodyPost _ _ _ _ _ (((((((((((((w1.setCell ⟨w.heap.size + 1, 0, none⟩ (U8 6)).setCell ⟨w.heap.size + 1, 1, none⟩ (.slice none 0 0)).setCell ⟨w.heap.size + 1, 2, none⟩ (.string ⟨#[]⟩)).setCell ⟨w.heap.size + 1, 3, none⟩ (.int .i64 (m : Int))).setCell ⟨w.heap.size + 1, 4, none⟩ (.int .i64 0)).setCell ⟨w.heap.size + 1, 5, none⟩ (.int .i64 0)).setCell ⟨w.heap.size + 1, 6, none⟩ (U8 2)).setCell ⟨w.heap.size + 1, 7, none⟩ (.int .i64 x)).setCell ⟨w.heap.size + 1, 8, none⟩ (.string ⟨#[]⟩)).setCell ⟨w.heap.size + 1, 9, none⟩ (.slice none 0 0)).setCell ⟨w.heap.size + 1, 10, none⟩ (.slice none 0 0)).setCell ⟨w.heap.size + 1, 11, none⟩ (.string ⟨#[]⟩)).alloc (.cells (cmCells 6 (m : Int) 0 2 x).toArray TCOMP))
    obtain ⟨hB, hK⟩ := blk_set12 HB1.out (U8 6) (.slice none 0 0) (.string ⟨#[]⟩) (.int .i64 (m : Int)) (.int .i64 0) (.int .i64 0) (U8 2) (.int .i64 x) (.string ⟨#[]⟩) (.slice none 0 0) (.slice none 0 0) (.string ⟨#[]⟩) (.cells (cmCells 6 (m : Int) 0 2 x).toArray TCOMP)
    generalize (((((((((((((w1.setCell ⟨w.heap.size + 1, 0, none⟩ (U8 6)).setCell ⟨w.heap.size + 1, 1, none⟩ (.slice none 0 0)).setCell ⟨w.heap.size + 1, 2, none⟩ (.string ⟨#[]⟩)).setCell ⟨w.heap.size + 1, 3, none⟩ (.int .i64 (m : Int))).setCell ⟨w.heap.size + 1, 4, none⟩ (.int .i64 0)).setCell ⟨w.heap.size + 1, 5, none⟩ (.int .i64 0)).setCell ⟨w.heap.size + 1, 6, none⟩ (U8 2)).setCell ⟨w.heap.size + 1, 7, none⟩ (.int .i64 x)).setCell ⟨w.heap.size + 1, 8, none⟩ (.string ⟨#[]⟩)).setCell ⟨w.heap.size + 1, 9, none⟩ (.slice none 0 0)).setCell ⟨w.heap.size + 1, 10, none⟩ (.slice none 0 0)).setCell ⟨w.heap.size + 1, 11, none⟩ (.string ⟨#[]⟩)).alloc (.cells (cmCells 6 (m : Int) 0 2 x).toArray TCOMP)) = W at *
    clear r0 z0 r1 z1 r2 z2 r3 z3 r4 z4 r5 z5 r6 z6 r7 z7 r8 z8 r9 z9 r10 z10 r11 z11
    have c0 := hB.cell 0
    have c1 := hB.cell 1
    have c2 := hB.cell 2
    have c3 := hB.cell 3
    have c4 := hB.cell 4
    have c5 := hB.cell 5
    have c6 := hB.cell 6
    have c7 := hB.cell 7
    have c8 := hB.cell 8
    have c9 := hB.cell 9
    have c10 := hB.cell 10
    have c11 := hB.cell 11
    simp at c0 c1 c2 c3 c4 c5 c6 c7 c8 c9 c10 c11
    refine bodyPost_ret (v := .agg (cmCells 6 (m : Int) 0 2 x).toArray) (by simp [results, Try.results26, go_sem, cmCells, c0, c1, c2, c3, c4, c5, c6, c7, c8, c9, c10, c11]) rfl ⟨⟨_, _, _, _, _, rfl, check_of (.inr (.inr (.inl ⟨rfl, by omega, by omega⟩))), by omega, by omega, by omega, by omega⟩, ?_⟩
    exact HE.out.trans hK fun q hq e => by omega
  · have HC := hid (fun w' => comp_ok k i j x w')
    rw [hk] at HC
    clear hk
    rw [show jL 7 j = j from rfl, show vkL 7 = 0 from rfl, show vnL 7 x = 0 from rfl] at HC
    go_enter Try.func26, Try.ntmps26
    go_wp2_with fail
    change Calls _ _ #[.agg #[U8 k, .int .i64 i, .int .i64 j, .int .i64 x]] ((w.alloc (.cells #[U8 k, .int .i64 i, .int .i64 j, .int .i64 x] 35)).alloc (.cells (cmCells 0 0 0 0 0).toArray TCOMP)) _
    obtain ⟨hb0, hb1, hE0⟩ := blk_two w 35 #[U8 k, .int .i64 i, .int .i64 j, .int .i64 x] (cmCells 0 0 0 0 0).toArray
    generalize ((w.alloc (.cells #[U8 k, .int .i64 i, .int .i64 j, .int .i64 x] 35)).alloc (.cells (cmCells 0 0 0 0 0).toArray TCOMP)) = w0 at *
    refine (HC.out w0).mono ?_
    rintro e w1 ⟨rfl, hE1⟩
    have hb0 := hb0.keep hE1 id
    have hb1 := hb1.keep hE1 id
    have HE := hid (hE0.ext hE1)
    have HZ := hid (show w.heap.size < w1.heap.size ∧ w.heap.size + 1 < w1.heap.size from ⟨hb0.lt, hb1.lt⟩)
    have hl0 : w.heap.size < w1.heap.size := HZ.out.1
    have hl1 : w.heap.size + 1 < w1.heap.size := HZ.out.2
    have q1 := hb0.cell 1
    have q2 := hb0.cell 2
    simp at q1 q2
    have r0 := hb1.cell 0
    have r1 := hb1.cell 1
    have r2 := hb1.cell 2
    have r3 := hb1.cell 3
    have r4 := hb1.cell 4
    have r5 := hb1.cell 5
    have r6 := hb1.cell 6
    have r7 := hb1.cell 7
    have r8 := hb1.cell 8
    have r9 := hb1.cell 9
    have r10 := hb1.cell 10
    have r11 := hb1.cell 11
    simp [cmCells] at r0 r1 r2 r3 r4 r5 r6 r7 r8 r9 r10 r11
    have z0 := hb1.frozen 0
    have z1 := hb1.frozen 1
    have z2 := hb1.frozen 2
    have z3 := hb1.frozen 3
    have z4 := hb1.frozen 4
    have z5 := hb1.frozen 5
    have z6 := hb1.frozen 6
    have z7 := hb1.frozen 7
    have z8 := hb1.frozen 8
    have z9 := hb1.frozen 9
    have z10 := hb1.frozen 10
    have z11 := hb1.frozen 11
    have HB1 := hid hb1
    clear hb0 hb1 hE0 hE1 HC
    simp only [cmCells]
    go_wp2
    change bodyPost _ _ _ _ _ (((((((((((((w1.setCell ⟨w.heap.size + 1, 0, none⟩ (U8 7)).setCell ⟨w.heap.size + 1, 1, none⟩ (.slice none 0 0)).setCell ⟨w.heap.size + 1, 2, none⟩ (.string ⟨#[]⟩)).setCell ⟨w.heap.size + 1, 3, none⟩ (.int .i64 (m : Int))).setCell ⟨w.heap.size + 1, 4, none⟩ (.int .i64 (q : Int))).setCell ⟨w.heap.size + 1, 5, none⟩ (.int .i64 0)).setCell ⟨w.heap.size + 1, 6, none⟩ (U8 0)).setCell ⟨w.heap.size + 1, 7, none⟩ (.int .i64 0)).setCell ⟨w.heap.size + 1, 8, none⟩ (.string ⟨#[]⟩)).setCell ⟨w.heap.size + 1, 9, none⟩ (.slice none 0 0)).setCell ⟨w.heap.size + 1, 10, none⟩ (.slice none 0 0)).setCell ⟨w.heap.size + 1, 11, none⟩ (.string ⟨#[]⟩)).alloc (.cells (cmCells 7 (m : Int) (q : Int) 0 0).toArray TCOMP))
    obtain ⟨hB, hK⟩ := blk_set12 HB1.out (U8 7) (.slice none 0 0) (.string ⟨#[]⟩) (.int .i64 (m : Int)) (.int .i64 (q : Int)) (.int .i64 0) (U8 0) (.int .i64 0) (.string ⟨#[]⟩) (.slice none 0 0) (.slice none 0 0) (.string ⟨#[]⟩) (.cells (cmCells 7 (m : Int) (q : Int) 0 0).toArray TCOMP)
    generalize (((((((((((((w1.setCell ⟨w.heap.size + 1, 0, none⟩ (U8 7)).setCell ⟨w.heap.size + 1, 1, none⟩ (.slice none 0 0)).setCell ⟨w.heap.size + 1, 2, none⟩ (.string ⟨#[]⟩)).setCell ⟨w.heap.size + 1, 3, none⟩ (.int .i64 (m : Int))).setCell ⟨w.heap.size + 1, 4, none⟩ (.int .i64 (q : Int))).setCell ⟨w.heap.size + 1, 5, none⟩ (.int .i64 0)).setCell ⟨w.heap.size + 1, 6, none⟩ (U8 0)).setCell ⟨w.heap.size + 1, 7, none⟩ (.int .i64 0)).setCell ⟨w.heap.size + 1, 8, none⟩ (.string ⟨#[]⟩)).setCell ⟨w.heap.size + 1, 9, none⟩ (.slice none 0 0)).setCell ⟨w.heap.size + 1, 10, none⟩ (.slice none 0 0)).setCell ⟨w.heap.size + 1, 11, none⟩ (.string ⟨#[]⟩)).alloc (.cells (cmCells 7 (m : Int) (q : Int) 0 0).toArray TCOMP)) = W at *
    clear r0 z0 r1 z1 r2 z2 r3 z3 r4 z4 r5 z5 r6 z6 r7 z7 r8 z8 r9 z9 r10 z10 r11 z11
    have c0 := hB.cell 0
    have c1 := hB.cell 1
    have c2 := hB.cell 2
    have c3 := hB.cell 3
    have c4 := hB.cell 4
    have c5 := hB.cell 5
    have c6 := hB.cell 6
    have c7 := hB.cell 7
    have c8 := hB.cell 8
    have c9 := hB.cell 9
    have c10 := hB.cell 10
    have c11 := hB.cell 11
    simp at c0 c1 c2 c3 c4 c5 c6 c7 c8 c9 c10 c11
    refine bodyPost_ret (v := .agg (cmCells 7 (m : Int) (q : Int) 0 0).toArray) (by simp [results, Try.results26, go_sem, cmCells, c0, c1, c2, c3, c4, c5, c6, c7, c8, c9, c10, c11]) rfl ⟨⟨_, _, _, _, _, rfl, check_of (.inr (.inr (.inr ⟨rfl, by omega, by omega, by omega, by omega⟩))), by omega, by omega, by omega, by omega⟩, ?_⟩
    exact HE.out.trans hK fun q hq e => by omega
end Go.Proofs.Ytimhfkllamimeaa
