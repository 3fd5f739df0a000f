/- The law's 'comp' and 'in'. -/
import Derived.Test.YtimhfkllamimeaaSeqV
set_option linter.unusedSimpArgs false
set_option linter.unusedVariables false
namespace Go.Proofs.Ytimhfkllamimeaa
open Go.RowKit

/-- The kind that a cut's kind stands for. -/
def kL (k : UInt8) : UInt8 := UInt8.ofNat (4 + k.toNat % 4)
theorem kL_cases (k : UInt8) : (kL k = 4 ∧ (k.toNat : Int).tmod 4 = 0) ∨ (kL k = 5 ∧ (k.toNat : Int).tmod 4 = 1) ∨ (kL k = 6 ∧ (k.toNat : Int).tmod 4 = 2) ∨ (kL k = 7 ∧ (k.toNat : Int).tmod 4 = 3) := by
  have h : (k.toNat : Int).tmod 4 = ((k.toNat % 4 : Nat) : Int) := by
    have := Int.ofNat_tmod k.toNat 4
    simpa using this.symm
  rw [h]
  have h4 := Nat.mod_lt k.toNat (show 0 < 4 from by omega)
  unfold kL
  generalize k.toNat % 4 = r at *
  rcases (show r = 0 ∨ r = 1 ∨ r = 2 ∨ r = 3 from by omega) with rfl | rfl | rfl | rfl <;> simp
def vkL (k : UInt8) : UInt8 := if k = 4 ∨ k = 6 then 2 else 0
def vnL (k : UInt8) (n : Int) : Int := if k = 4 ∨ k = 6 then n else 0
def jL (k : UInt8) (j : Int) : Int := if k = 7 then j else 0

theorem blk_second (w : World) (A C : Obj) (cs : Array Value) : Blk (((w.alloc A).alloc (.cells cs TCOMP)).alloc C) (w.heap.size + 1) TCOMP cs := by
  have := (Blk.new (w.alloc A) TCOMP cs).alloc C
  rwa [World.size_alloc] at this
set_option maxHeartbeats 3200000 in
theorem comp_ok (k : UInt8) (i j n : Int) (w : World) :
    Calls Try.prog 15 #[.agg #[U8 k, .int .i64 i, .int .i64 j, .int .i64 n]] w fun e w' => e = .returned (.agg (cmCells (kL k) i (jL (kL k) j) (vkL (kL k)) (vnL (kL k) n)).toArray) ∧ Ext w w' := by
  rcases kL_cases k with ⟨h, e⟩ | ⟨h, e⟩ | ⟨h, e⟩ | ⟨h, e⟩
  · rw [h, show jL 4 j = 0 from rfl, show vkL 4 = 2 from rfl, show vnL 4 n = n from rfl]
    clear h
    go_enter Try.func15, Try.ntmps15
    go_wp2
    change bodyPost _ _ _ _ _ (((w.alloc (.cells #[U8 k, .int .i64 i, .int .i64 j, .int .i64 n] 35)).alloc (.cells (cmCells 4 i 0 2 n).toArray TCOMP)).alloc (.cells (cmCells 4 i 0 2 n).toArray TCOMP))
    have hE : Ext w (((w.alloc (.cells #[U8 k, .int .i64 i, .int .i64 j, .int .i64 n] 35)).alloc (.cells (cmCells 4 i 0 2 n).toArray TCOMP)).alloc (.cells (cmCells 4 i 0 2 n).toArray TCOMP)) := (((Keep.refl _ _).alloc _).alloc _).alloc _
    have hb := blk_second w (.cells #[U8 k, .int .i64 i, .int .i64 j, .int .i64 n] 35) (.cells (cmCells 4 i 0 2 n).toArray TCOMP) (cmCells 4 i 0 2 n).toArray
    generalize (((w.alloc (.cells #[U8 k, .int .i64 i, .int .i64 j, .int .i64 n] 35)).alloc (.cells (cmCells 4 i 0 2 n).toArray TCOMP)).alloc (.cells (cmCells 4 i 0 2 n).toArray TCOMP)) = W at *
    have c0 := hb.cell 0
    have c1 := hb.cell 1
    have c2 := hb.cell 2
    have c3 := hb.cell 3
    have c4 := hb.cell 4
    have c5 := hb.cell 5
    have c6 := hb.cell 6
    have c7 := hb.cell 7
    have c8 := hb.cell 8
    have c9 := hb.cell 9
    have c10 := hb.cell 10
    have c11 := hb.cell 11
    simp [cmCells] at c0 c1 c2 c3 c4 c5 c6 c7 c8 c9 c10 c11
    refine bodyPost_ret (v := .agg (cmCells 4 i 0 2 n).toArray) (by simp [results, Try.results15, go_sem, cmCells, c0, c1, c2, c3, c4, c5, c6, c7, c8, c9, c10, c11]) rfl ⟨rfl, hE⟩
  · rw [h, show jL 5 j = 0 from rfl, show vkL 5 = 0 from rfl, show vnL 5 n = 0 from rfl]
    clear h
    go_enter Try.func15, Try.ntmps15
    go_wp2
    change bodyPost _ _ _ _ _ (((w.alloc (.cells #[U8 k, .int .i64 i, .int .i64 j, .int .i64 n] 35)).alloc (.cells (cmCells 5 i 0 0 0).toArray TCOMP)).alloc (.cells (cmCells 5 i 0 0 0).toArray TCOMP))
    have hE : Ext w (((w.alloc (.cells #[U8 k, .int .i64 i, .int .i64 j, .int .i64 n] 35)).alloc (.cells (cmCells 5 i 0 0 0).toArray TCOMP)).alloc (.cells (cmCells 5 i 0 0 0).toArray TCOMP)) := (((Keep.refl _ _).alloc _).alloc _).alloc _
    have hb := blk_second w (.cells #[U8 k, .int .i64 i, .int .i64 j, .int .i64 n] 35) (.cells (cmCells 5 i 0 0 0).toArray TCOMP) (cmCells 5 i 0 0 0).toArray
    generalize (((w.alloc (.cells #[U8 k, .int .i64 i, .int .i64 j, .int .i64 n] 35)).alloc (.cells (cmCells 5 i 0 0 0).toArray TCOMP)).alloc (.cells (cmCells 5 i 0 0 0).toArray TCOMP)) = W at *
    have c0 := hb.cell 0
    have c1 := hb.cell 1
    have c2 := hb.cell 2
    have c3 := hb.cell 3
    have c4 := hb.cell 4
    have c5 := hb.cell 5
    have c6 := hb.cell 6
    have c7 := hb.cell 7
    have c8 := hb.cell 8
    have c9 := hb.cell 9
    have c10 := hb.cell 10
    have c11 := hb.cell 11
    simp [cmCells] at c0 c1 c2 c3 c4 c5 c6 c7 c8 c9 c10 c11
    refine bodyPost_ret (v := .agg (cmCells 5 i 0 0 0).toArray) (by simp [results, Try.results15, go_sem, cmCells, c0, c1, c2, c3, c4, c5, c6, c7, c8, c9, c10, c11]) rfl ⟨rfl, hE⟩
  · rw [h, show jL 6 j = 0 from rfl, show vkL 6 = 2 from rfl, show vnL 6 n = n from rfl]
    clear h
    go_enter Try.func15, Try.ntmps15
    go_wp2
    change bodyPost _ _ _ _ _ (((w.alloc (.cells #[U8 k, .int .i64 i, .int .i64 j, .int .i64 n] 35)).alloc (.cells (cmCells 6 i 0 2 n).toArray TCOMP)).alloc (.cells (cmCells 6 i 0 2 n).toArray TCOMP))
    have hE : Ext w (((w.alloc (.cells #[U8 k, .int .i64 i, .int .i64 j, .int .i64 n] 35)).alloc (.cells (cmCells 6 i 0 2 n).toArray TCOMP)).alloc (.cells (cmCells 6 i 0 2 n).toArray TCOMP)) := (((Keep.refl _ _).alloc _).alloc _).alloc _
    have hb := blk_second w (.cells #[U8 k, .int .i64 i, .int .i64 j, .int .i64 n] 35) (.cells (cmCells 6 i 0 2 n).toArray TCOMP) (cmCells 6 i 0 2 n).toArray
    generalize (((w.alloc (.cells #[U8 k, .int .i64 i, .int .i64 j, .int .i64 n] 35)).alloc (.cells (cmCells 6 i 0 2 n).toArray TCOMP)).alloc (.cells (cmCells 6 i 0 2 n).toArray TCOMP)) = W at *
    have c0 := hb.cell 0
    have c1 := hb.cell 1
    have c2 := hb.cell 2
    have c3 := hb.cell 3
    have c4 := hb.cell 4
    have c5 := hb.cell 5
    have c6 := hb.cell 6
    have c7 := hb.cell 7
    have c8 := hb.cell 8
    have c9 := hb.cell 9
    have c10 := hb.cell 10
    have c11 := hb.cell 11
    simp [cmCells] at c0 c1 c2 c3 c4 c5 c6 c7 c8 c9 c10 c11
    refine bodyPost_ret (v := .agg (cmCells 6 i 0 2 n).toArray) (by simp [results, Try.results15, go_sem, cmCells, c0, c1, c2, c3, c4, c5, c6, c7, c8, c9, c10, c11]) rfl ⟨rfl, hE⟩
  · rw [h, show jL 7 j = j from rfl, show vkL 7 = 0 from rfl, show vnL 7 n = 0 from rfl]
    clear h
    go_enter Try.func15, Try.ntmps15
    go_wp2
    change bodyPost _ _ _ _ _ (((w.alloc (.cells #[U8 k, .int .i64 i, .int .i64 j, .int .i64 n] 35)).alloc (.cells (cmCells 7 i j 0 0).toArray TCOMP)).alloc (.cells (cmCells 7 i j 0 0).toArray TCOMP))
    have hE : Ext w (((w.alloc (.cells #[U8 k, .int .i64 i, .int .i64 j, .int .i64 n] 35)).alloc (.cells (cmCells 7 i j 0 0).toArray TCOMP)).alloc (.cells (cmCells 7 i j 0 0).toArray TCOMP)) := (((Keep.refl _ _).alloc _).alloc _).alloc _
    have hb := blk_second w (.cells #[U8 k, .int .i64 i, .int .i64 j, .int .i64 n] 35) (.cells (cmCells 7 i j 0 0).toArray TCOMP) (cmCells 7 i j 0 0).toArray
    generalize (((w.alloc (.cells #[U8 k, .int .i64 i, .int .i64 j, .int .i64 n] 35)).alloc (.cells (cmCells 7 i j 0 0).toArray TCOMP)).alloc (.cells (cmCells 7 i j 0 0).toArray TCOMP)) = W at *
    have c0 := hb.cell 0
    have c1 := hb.cell 1
    have c2 := hb.cell 2
    have c3 := hb.cell 3
    have c4 := hb.cell 4
    have c5 := hb.cell 5
    have c6 := hb.cell 6
    have c7 := hb.cell 7
    have c8 := hb.cell 8
    have c9 := hb.cell 9
    have c10 := hb.cell 10
    have c11 := hb.cell 11
    simp [cmCells] at c0 c1 c2 c3 c4 c5 c6 c7 c8 c9 c10 c11
    refine bodyPost_ret (v := .agg (cmCells 7 i j 0 0).toArray) (by simp [results, Try.results15, go_sem, cmCells, c0, c1, c2, c3, c4, c5, c6, c7, c8, c9, c10, c11]) rfl ⟨rfl, hE⟩

end Go.Proofs.Ytimhfkllamimeaa
