/- Turn of any two components of texts is what the chapter says, made ready for the lifting: a cut, opened; the laid tables. -/
import Derived.Test.YtepbodopnndfgaaDoorTextX
import Derived.Test.YtepbodopnndfgaaDoorOpenX
import Derived.Test.YtepbodopnndfgaaDoorRows
set_option linter.unusedSimpArgs false
set_option linter.unusedVariables false
namespace Go.Proofs.YtepbodopnndfgaaDoor
open Go.ChangeShapes Go.WideShapes Go.ChangeAt Go.RowKit Go.Deep
set_option linter.unusedVariables false

/-- A cut: whether it drops, where, how many, the text. -/
structure CutT where
  d : Bool
  i : Int
  n : Int
  s : ByteArray
def ECut : El CutT := { size := 4, rd := fun _ _ cs t => cs = [.bool t.d, .int .i64 t.i, .int .i64 t.n, .string t.s] }
theorem ECut.ok : ECut.Ok where
  pos := by decide
  len := fun h => by subst h; rfl
  one := fun h u hu => by
    subst h
    simp at hu
    rcases hu with rfl | rfl | rfl | rfl <;> rfl
  keep := fun h _ _ => h
  more := fun h _ => h
theorem op_cut {H : Type} {enc : TypeId × Value → H} {W : World} {spare : Nat → Bool} {held : Bool} : Opens ECut enc Tryd.prog W spare held 23 (fun t => t.s.size ≤ reachBytes) := by
  refine (opens_struct Tryd.underlying23 (by kernel_rfl) (fop_cons rfl (opens_bool Tryd.underlying4 (by kernel_rfl)) (fop_cons rfl (opens_int Tryd.underlying3 (by kernel_rfl)) (fop_cons rfl (opens_int Tryd.underlying3 (by kernel_rfl))
    (fop_one rfl (opens_str Tryd.underlying9 (by kernel_rfl))))))).map rfl (fun x => ⟨x.1, x.2.1, x.2.2.1, x.2.2.2⟩) ?_ ?_
  · rintro w S cs x ⟨c1, _, rfl, h1, c2, _, rfl, h2, c3, c4, rfl, h3, h4⟩
    show _ = _
    rw [show c1 = _ from h1, show c2 = _ from h2, show c3 = _ from h3, show c4 = _ from h4]; rfl
  · rintro x ⟨_, _, _, h⟩
    exact h
theorem dec_laid {w0 : World} {l : List (String × DataW Unit)} (h : laidMetH Tryd.prog l w0) (hp : l = [("unicode/utf8.acceptRanges", Rows.laid_unicode_utf8_acceptRanges), ("unicode/utf8.first", Rows.laid_unicode_utf8_first)]) : DecAny w0 := by
  subst hp
  rw [MakeChecks.laidMetH_plain _ _ _ (by kernel_rfl)] at h
  have e1 : (Rows.laid_unicode_utf8_first : DataW Unit) = Lib.firstData := by kernel_rfl
  have e2 : (Rows.laid_unicode_utf8_acceptRanges : DataW Unit) = Lib.acceptData := by kernel_rfl
  have h3 : Lib.VarReads Tryd.prog w0 "unicode/utf8.first" Lib.firstData := by rw [← e1]; exact Lib.laidMet.reads h (.tail _ (.head _))
  have h4 : Lib.VarReads Tryd.prog w0 "unicode/utf8.acceptRanges" Lib.acceptData := by rw [← e2]; exact Lib.laidMet.reads h (.head _)
  exact dec_any (utf8Tabs_of_readsT { Tryd.laysDR with } ⟨by kernel_rfl, by kernel_rfl, by kernel_rfl, by kernel_rfl, by kernel_rfl, by kernel_rfl, by kernel_rfl⟩ h3 h4)
theorem turns_lift (cs : Array Value) (c : CutT) (ds : Array Value) (d : CutT) (left : Bool) (k : Int) (w : World) (h0 : ECut.rd w (fun k => k < w.heap.size) cs.toList c) (q0 : c.s.size ≤ reachBytes) (h1 : ECut.rd w (fun k => k < w.heap.size) ds.toList d) (q1 : d.s.size ≤ reachBytes) (hk : (Lit.int .u8 k).wf = true) (hD : DecAny w) :
    Calls Tryd.prog 3 #[.agg cs, .agg ds, .bool left, .int .u8 k] w fun e w' => e = .returned (.bool true) ∧ Below w.heap.size w w' := by
  obtain ⟨k, rfl⟩ := u8_of_wf hk
  have e0 : cs = #[.bool c.d, .int .i64 c.i, .int .i64 c.n, .string c.s] := by rw [← Array.toArray_toList (xs := cs), show cs.toList = _ from h0]
  have e1 : ds = #[.bool d.d, .int .i64 d.i, .int .i64 d.n, .string d.s] := by rw [← Array.toArray_toList (xs := ds), show ds.toList = _ from h1]
  subst e0; subst e1
  exact (turns_walk c.d c.i c.n c.s d.d d.i d.n d.s left k w (by unfold reachBytes at q0; omega) (by unfold reachBytes at q1; omega) hD).mono fun e w' h => ⟨h.1, h.2.toBelow⟩
end Go.Proofs.YtepbodopnndfgaaDoor
