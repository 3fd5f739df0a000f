/- Package net: a message; clone, New, lacks, full. -/
import Derived.Test.YtjpbfdkpkeaofaaBytesClone
import Derived.Test.YtjpbfdkpkeaofaaGrowTail
set_option linter.unusedSimpArgs false
set_option linter.unusedVariables false
namespace Go.Proofs.Ytjpbfdkpkeaofaa
open Go.RowKit
set_option linter.unusedVariables false

/-- A message. -/
structure Mail where
  sess : Int
  up : Bool
  b : List UInt8
def EMail : El Mail := { size := 3, rd := fun w S cs m => ∃ bv, cs = [.int .i64 m.sess, .bool m.up, bv] ∧ BytesS w S bv m.b }
theorem EMail.ok : EMail.Ok where
  pos := by decide
  len := fun ⟨_, h, _⟩ => by subst h; rfl
  one := fun ⟨bv, h, hs⟩ u hu => by
    subst h
    obtain ⟨A, c, rfl, _⟩ := hs.shape
    simp at hu
    rcases hu with rfl | rfl | rfl <;> rfl
  keep := fun ⟨bv, h, hs⟩ hk hF => ⟨bv, h, hs.keep EU8.ok hk hF⟩
  more := fun ⟨bv, h, hs⟩ hS => ⟨bv, h, hs.more EU8.ok hS⟩
abbrev TMAIL : Nat := 32
abbrev TMAILS : Nat := 27
abbrev TNET : Nat := 47
theorem ty_mail : TyInfo Try.prog TMAILS TMAIL 3 40 := by
  obtain ⟨i, h1, h2, h3, h4⟩ := info_parts (show (Try.prog.info? TMAIL).map (fun i => (i.zero, i.size, i.bytes)) = some (some (.agg #[.int .i64 0, .bool false, .slice none 0 0]), 3, 40) from by kernel_rfl)
  exact ⟨Try.underlying27, i, _, h1, h2, h3, h4, rfl⟩

set_option maxHeartbeats 400000 in
/-- 'net.clone'. -/
theorem clone_mail (s : Int) (u : Bool) (bv : Value) (l : List UInt8) (S : BS) (w : World) (hv : BytesS w S bv l) (hl : l.length ≤ 140737488355328) :
    Calls Try.prog 20 #[.agg #[.int .i64 s, .bool u, bv]] w fun e w' => ∃ bv', e = .returned (.agg #[.int .i64 s, .bool u, bv']) ∧ BytesS w' (fun k => w.heap.size ≤ k) bv' l ∧ Ext w w' := by
  have hv1 := ((hv.more (S' := fun k => S k ∧ k < w.heap.size) EU8.ok (fun k hk hs => ⟨hs, hk⟩)).ext EU8.ok (((Keep.refl _ _).alloc (.cells #[.int .i64 s, .bool u, bv] TMAIL)).alloc (.cells #[.int .i64 0, .bool false, .slice none 0 0] TMAIL)))
  go_enter Try.func20, Try.ntmps20
  go_wp2_with fail
  refine (clone_bytes _ _ _ _ hv1 hl).mono ?_
  rintro e w1 ⟨bv', rfl, hb', hE1⟩
  have b1 : Blk w1 w.heap.size TMAIL #[.int .i64 s, .bool u, bv] := ((Blk.new w TMAIL _).alloc _).keep hE1 id
  have b2 : Blk w1 (w.heap.size + 1) TMAIL #[.int .i64 0, .bool false, .slice none 0 0] := by
    have h := (Blk.new (w.alloc (.cells #[.int .i64 s, .bool u, bv] TMAIL)) TMAIL #[.int .i64 0, .bool false, .slice none 0 0]).keep hE1 id
    simpa using h
  have hz := hE1.size
  simp at hz
  have c0 := b1.cell 0
  have c1 := b1.cell 1
  have c2 := b1.cell 2
  have f2 := b1.frozen 2
  have d0 := b2.cell 0
  have d1 := b2.cell 1
  have d2 := b2.cell 2
  have g0 := b2.frozen 0
  have g1 := b2.frozen 1
  have g2 := b2.frozen 2
  simp at c0 c1 c2 d0 d1 d2
  obtain ⟨A', c', rfl, _⟩ := hb'.shape
  have HB := hid (hb'.more (S' := fun k => w.heap.size + 2 ≤ k) EU8.ok (fun k _ h => by simp at h; omega))
  have HE := hid ((((Keep.refl (fun _ => False) w).alloc _).alloc _).ext hE1)
  clear hb' hE1 hv1 hv b1 b2
  go_wp2
  have hK : Keep (fun k => w.heap.size ≤ k ∧ k < w.heap.size + 2) w1 ((((w1.setCell ⟨w.heap.size, 2, none⟩ (.slice A' l.length c')).setCell ⟨w.heap.size + 1, 0, none⟩ (.int .i64 s)).setCell ⟨w.heap.size + 1, 1, none⟩ (.bool u)).setCell ⟨w.heap.size + 1, 2, none⟩ (.slice A' l.length c')) :=
    ((((Keep.refl _ _).setAt (fun _ => by omega) _ _).setAt (fun _ => by omega) _ _).setAt (fun _ => by omega) _ _).setAt (fun _ => by omega) _ _
  refine bodyPost_ret (v := .agg #[.int .i64 s, .bool u, .slice A' l.length c']) (by simp [results, Try.results20, go_sem, d0, d1, d2]) rfl ⟨_, rfl, ?_, ?_⟩
  · exact (HB.out.keep EU8.ok hK (fun k h1 h2 => by omega)).more EU8.ok (fun k _ h => by omega)
  · exact HE.out.trans hK (fun k h1 h2 => by omega)
end Go.Proofs.Ytjpbfdkpkeaofaa
