/- utf8.ValidString, by contract: off the library's shelf, laid at this program's numbers; the tables as they are laid. -/
import Derived.Test.YtggkidnlmaindaaDoorRefSound
import Derived.Test.YtggkidnlmaindaaDoorLayV
import Derived.Test.YtggkidnlmaindaaDoorRows
import Derived.Lib.LaidU8T
import Derived.LaidByTextLater
set_option linter.unusedSimpArgs false
set_option linter.unusedVariables false
namespace Go.Proofs.YtggkidnlmaindaaDoor
open Go.RowKit
set_option linter.unusedVariables false

/-- utf8.ValidString, in whatever world that has grown out of w0. -/
def ValAny (w0 : World) : Prop := ∀ s : ByteArray, s.size ≤ 9223372036854775807 → ∀ w', Ext w0 w' → Calls Tryd.prog 32 #[.string s] w' fun e w'' => e = .returned (.bool (Lib.validD s.data.toList)) ∧ Ext w' w''
theorem ValAny.ext {w0 w : World} (h : ValAny w0) (he : Ext w0 w) : ValAny w := fun s hs w' h' => h s hs w' (he.ext h')
theorem valid_asc {s : ByteArray} (h : Asc s) : Lib.validD s.data.toList = true := by
  have := Lib.validD_ascii s.data.toList.length s.data.toList (fun b hb => h.1 b (List.mem_of_mem_take hb))
  rw [this, List.drop_length]
  exact Lib.validD_nil
theorem ValAny.asc {w0 : World} (h : ValAny w0) : ValAsc w0 := fun s hs w' he => by
  have := h s (by have := hs.2; omega) w' he
  rw [valid_asc hs] at this
  exact this
theorem val_any {w0 : World} (hT : Lib.Utf8Tabs (Tryd.laysValid_ren.g 3) (Tryd.laysValid_ren.g 4) w0) : ValAny w0 := fun s hs w' he =>
  (Any.utf8_ValidString Tryd.laysValid s w' hs (Utf8Tabs_below hT he.toBelow)).mono fun e w'' h => ⟨h.1, Keep.of_below h.2 fun k h1 h2 => absurd h1 (Nat.not_lt.2 h2)⟩
theorem val_laid {w0 : World} {l : List (String × DataW Unit)} (h : laidMetH Tryd.prog l w0) (hp : l = [("unicode/utf8.acceptRanges", Rows.laid_unicode_utf8_acceptRanges), ("unicode/utf8.first", Rows.laid_unicode_utf8_first)]) : ValAny w0 := by
  subst hp
  rw [MakeChecks.laidMetH_plain _ _ _ (by kernel_rfl)] at h
  have e1 : (Rows.laid_unicode_utf8_first : DataW Unit) = Lib.firstData := by kernel_rfl
  have e2 : (Rows.laid_unicode_utf8_acceptRanges : DataW Unit) = Lib.acceptData := by kernel_rfl
  have h3 : Lib.VarReads Tryd.prog w0 "unicode/utf8.first" Lib.firstData := by rw [← e1]; exact Lib.laidMet.reads h (.tail _ (.head _))
  have h4 : Lib.VarReads Tryd.prog w0 "unicode/utf8.acceptRanges" Lib.acceptData := by rw [← e2]; exact Lib.laidMet.reads h (.head _)
  exact val_any (utf8Tabs_of_readsT (U8Types.of196 Tryd.laysValid) ⟨by kernel_rfl, by kernel_rfl, by kernel_rfl, by kernel_rfl, by kernel_rfl, by kernel_rfl, by kernel_rfl⟩ h3 h4)
end Go.Proofs.YtggkidnlmaindaaDoor
