/- A cut, opened. -/
import Derived.Test.YtimhfkllamimeaaOpenX
import Derived.Test.YtimhfkllamimeaaSeqA
set_option linter.unusedSimpArgs false
set_option linter.unusedVariables false
namespace Go.Proofs.Ytimhfkllamimeaa
open Go.ChangeShapes Go.WideShapes Go.ChangeAt Go.RowKit Go.Deep
structure LCut where
  kind : UInt8
  i : Int
  j : Int
  n : Int
def ECut : El LCut := { size := 4, rd := fun _ _ cs c => cs = [U8 c.kind, .int .i64 c.i, .int .i64 c.j, .int .i64 c.n] }
theorem ECut.ok : ECut.Ok where
  pos := by decide
  len := fun h => by have h := h; subst h; rfl
  one := fun h u hu => by subst h; simp at hu; rcases hu with rfl | rfl | rfl | rfl <;> rfl
  keep := fun h _ _ => h
  more := fun h _ => h
def CutOk (c : LCut) : Prop := (Lit.int .i64 c.i).wf = true ∧ (Lit.int .i64 c.j).wf = true ∧ (Lit.int .i64 c.n).wf = true
theorem op_cut {H : Type} {enc : TypeId × Value → H} {W : World} {spare : Nat → Bool} {held : Bool} : Opens ECut enc Try.prog W spare held 35 CutOk := by
  refine (opens_struct Try.underlying35 (by kernel_rfl) (fop_cons rfl (opens_u8 Try.underlying5 (by kernel_rfl)) (fop_cons rfl (opens_int Try.underlying3 (by kernel_rfl)) (fop_cons rfl (opens_int Try.underlying3 (by kernel_rfl))
    (fop_one rfl (opens_int Try.underlying2 (by kernel_rfl))))))).map rfl (fun x => ⟨x.1, x.2.1, x.2.2.1, x.2.2.2⟩) ?_ ?_
  · rintro w S cs x ⟨c1, _, rfl, h1, c2, _, rfl, h2, c3, c4, rfl, h3, h4⟩
    show _ = _
    rw [show c1 = _ from h1, show c2 = _ from h2, show c3 = _ from h3, show c4 = _ from h4]; rfl
  · rintro x ⟨_, h1, h2, h3⟩
    exact ⟨h1, h2, h3⟩
theorem cut_cells {w : World} {S : BS} {cs : Array Value} {c : LCut} (h : ECut.rd w S cs.toList c) : cs = #[U8 c.kind, .int .i64 c.i, .int .i64 c.j, .int .i64 c.n] := by
  have : cs.toList = [U8 c.kind, .int .i64 c.i, .int .i64 c.j, .int .i64 c.n] := h
  apply Array.toList_inj.1
  rw [this]
end Go.Proofs.Ytimhfkllamimeaa
