/- RefSound, LayV, Vld, ValPlain, ValRise, ValSound: laid together. -/
import Derived.Test.YtioplgfopillnaaDoorTiB7
import Derived.Test.YtioplgfopillnaaDoorTiB4
import Derived.Shelf.Unicode.ValidAny
import Derived.Ground.NamesProg
import Derived.Test.YtioplgfopillnaaDoorProg
import Derived.Test.YtioplgfopillnaaDoorRows
import Derived.Lib.LaidU8T
import Derived.LaidByTextLater
import Derived.Test.YtioplgfopillnaaDoorTiB19
/- The reference's Sound at sound values, over a contract of utf8.ValidString at texts below 128. -/
set_option linter.unusedSimpArgs false
set_option linter.unusedVariables false
namespace Go.Proofs.YtioplgfopillnaaDoor
open Go.RowKit
set_option linter.unusedVariables false
/-- utf8.ValidString at texts below 128, in whatever world that has grown out of w0. -/
def ValAsc (w0 : World) : Prop := ∀ s, Asc s → ∀ w', Ext w0 w' → Calls Tryd.prog 92 #[.string s] w' fun e w'' => e = .returned (.bool true) ∧ Ext w' w''
theorem ValAsc.ext {w0 w : World} (h : ValAsc w0) (he : Ext w0 w) : ValAsc w := fun s hs w' h' => h s hs w' (he.ext h')
theorem rise_at {o : List F} (h : Rise o) {j : Nat} (hj : j + 1 < o.length) : keyLt o[j].key o[j + 1].key = true := List.pairwise_iff_getElem.1 ((rise_iff o).1 h) j (j + 1) (by omega) hj (by omega)

end Go.Proofs.YtioplgfopillnaaDoor

/-
  DERIVED: THE SHELF's CONTRACTS AT THIS DUMP, IN PLAIN WORDS (tools/lay-plain.mjs out of 'YtioplgfopillnaaDoorLayVRaw.lean', which tools/lay-shelf.mjs wrote): THE SAME DECLARATIONS UNDER THE SAME NAMES: 'import', 'namespace', 'open', 'def', 'theorem' AND NOTHING ELSE: no command of the shelf's: FOR A HAND-IN. Each laying: the table of numbers ('.._ren') and one theorem, a field a fact of the dump's own or the kernel's comparison; each contract: ONE APPLICATION.
-/
namespace Go.Proofs
open Go.Shelf
def Tryd.laysValid_ren : Go.Shelf.Ren := ⟨fun | 196 => 92 | 259 => 102 | n => n, fun | 9 => 9 | 4 => 4 | 3 => 3 | 5 => 5 | 12 => 12 | 119 => 120 | 0 => 0 | 46 => 124 | 139 => 123 | 138 => 122 | 53 => 125 | n => n, fun | 3 => 0 | 4 => 1 | n => n⟩
theorem Tryd.laysValid : Go.Proofs.Lays.n196 Tryd.prog Tryd.laysValid_ren := {
  mixed := by kernel_rfl
  f196 := Tryd.func92.trans (congrArg some (by kernel_rfl))
  f259 := Tryd.func102.trans (congrArg some (by kernel_rfl))
  t0 := Tryd.underlying0
  a0 := Tryd.isAgg0
  z0 := Tryd.sizeOf0
  v0 := Tryd.zeroValue0
  t3 := Tryd.underlying3
  a3 := Tryd.isAgg3
  z3 := Tryd.sizeOf3
  v3 := Tryd.zeroValue3
  t4 := Tryd.underlying4
  a4 := Tryd.isAgg4
  z4 := Tryd.sizeOf4
  v4 := Tryd.zeroValue4
  t5 := Tryd.underlying5
  a5 := Tryd.isAgg5
  z5 := Tryd.sizeOf5
  v5 := Tryd.zeroValue5
  t9 := Tryd.underlying9
  a9 := Tryd.isAgg9
  z9 := Tryd.sizeOf9
  v9 := Tryd.zeroValue9
  t12 := Tryd.underlying12
  a12 := Tryd.isAgg12
  z12 := Tryd.sizeOf12
  v12 := Tryd.zeroValue12
  t46 := Tryd.underlying124
  a46 := Tryd.isAgg124
  z46 := Tryd.sizeOf124
  v46 := Tryd.zeroValue124
  t53 := Tryd.underlying125
  a53 := Tryd.isAgg125
  z53 := Tryd.sizeOf125
  v53 := Tryd.zeroValue125
  t119 := Tryd.underlying120
  a119 := Tryd.isAgg120
  z119 := Tryd.sizeOf120
  t138 := Tryd.underlying122
  a138 := Tryd.isAgg122
  z138 := Tryd.sizeOf122
  v138 := Tryd.zeroValue122
  t139 := Tryd.underlying123
  a139 := Tryd.isAgg123
  z139 := Tryd.sizeOf123
  v139 := Tryd.zeroValue123
  g3 := by kernel_rfl
  g4 := by kernel_rfl }
end Go.Proofs

/- utf8.ValidString, by contract: off the library's shelf, laid at this program's numbers; the tables as they are laid. -/
set_option linter.unusedSimpArgs false
set_option linter.unusedVariables false
namespace Go.Proofs.YtioplgfopillnaaDoor
open Go.RowKit
set_option linter.unusedVariables false

/-- utf8.ValidString, in whatever world that has grown out of w0. -/
def ValAny (w0 : World) : Prop := ∀ s : ByteArray, s.size ≤ 9223372036854775807 → ∀ w', Ext w0 w' → Calls Tryd.prog 92 #[.string s] w' fun e w'' => e = .returned (.bool (Lib.validD s.data.toList)) ∧ Ext w' w''
theorem ValAny.ext {w0 w : World} (h : ValAny w0) (he : Ext w0 w) : ValAny w := fun s hs w' h' => h s hs w' (he.ext h')
theorem valid_asc {s : ByteArray} (h : Asc s) : Lib.validD s.data.toList = true := by
  have := Lib.validD_ascii s.data.toList.length s.data.toList (fun b hb => h.1 b (List.mem_of_mem_take hb))
  rw [this, List.drop_length]
  exact Lib.validD_nil
theorem val_any {w0 : World} (hT : Lib.Utf8Tabs (Tryd.laysValid_ren.g 3) (Tryd.laysValid_ren.g 4) w0) : ValAny w0 := fun s hs w' he =>
  (Any.utf8_ValidString Tryd.laysValid s w' hs (Utf8Tabs_below hT he.toBelow)).mono fun e w'' h => ⟨h.1, Keep.of_below h.2 fun k h1 h2 => absurd h1 (Nat.not_lt.2 h2)⟩
theorem val_laid {w0 : World} {l : List (String × DataW Unit)} (h : laidMetH Tryd.prog l w0) (hp : l = [("unicode/utf8.acceptRanges", Rows.laid_unicode_utf8_acceptRanges), ("unicode/utf8.first", Rows.laid_unicode_utf8_first)]) : ValAny w0 := by
  subst hp
  rw [MakeChecks.laidMetH_plain _ _ _ (by kernel_rfl)] at h
  have e1 : (Rows.laid_unicode_utf8_first : DataW Unit) = Lib.firstData := by kernel_rfl
  have e2 : (Rows.laid_unicode_utf8_acceptRanges : DataW Unit) = Lib.acceptData := by kernel_rfl
  have h3 : Lib.VarReads Tryd.prog w0 "unicode/utf8.first" Lib.firstData := by rw [← e1]; exact Lib.laidMet.reads h (.tail _ (.head _))
  have h4 : Lib.VarReads Tryd.prog w0 "unicode/utf8.acceptRanges" Lib.acceptData := by rw [← e2]; exact Lib.laidMet.reads h (.head _)
  exact val_any (utf8Tabs_of_readsT (U8Types.of196 Tryd.laysValid) ⟨by kernel_rfl, by kernel_rfl, by kernel_rfl, by kernel_rfl, by kernel_rfl, by kernel_rfl, by kernel_rfl⟩ h3 h4)
end Go.Proofs.YtioplgfopillnaaDoor

/- val.plain and val.rising at any value. -/
set_option linter.unusedSimpArgs false
set_option linter.unusedVariables false
namespace Go.Proofs.YtioplgfopillnaaDoor
open Go.RowKit
set_option linter.unusedVariables false

/-- The fields of a value are as its kind asks. -/
def plainB (x : V) : Bool :=
  if x.kind = 0 then x.n == 0 && x.s.toList.isEmpty && x.l.isEmpty && x.o.isEmpty else
  if x.kind = 1 then (x.n == 0 || x.n == 1) && x.s.toList.isEmpty && x.l.isEmpty && x.o.isEmpty else
  if x.kind = 2 then x.s.toList.isEmpty && x.l.isEmpty && x.o.isEmpty else
  if x.kind = 3 then x.n == 0 && Lib.validD x.s.data.toList && x.l.isEmpty && x.o.isEmpty else
  if x.kind = 4 then x.n == 0 && x.s.toList.isEmpty && x.o.isEmpty else
  if x.kind = 5 then x.n == 0 && x.s.toList.isEmpty && x.l.isEmpty else false
end Go.Proofs.YtioplgfopillnaaDoor

/- val.rising at any fields; what makes a value sound. -/
set_option linter.unusedSimpArgs false
set_option linter.unusedVariables false
namespace Go.Proofs.YtioplgfopillnaaDoor
open Go.RowKit
set_option linter.unusedVariables false

/-- Keys rise, one by one. -/
def risesB : List F → Bool
  | [] => true
  | a :: r => (match r with | [] => true | b :: _ => keyLt a.key b.key) && risesB r
theorem risesB_iff : ∀ (o : List F), risesB o = true ↔ ∀ i (h : i + 1 < o.length), keyLt o[i].key o[i + 1].key = true
  | [] => by simp [risesB]
  | [a] => by simp [risesB]
  | a :: b :: r => by
    have ih := risesB_iff (b :: r)
    rw [risesB, Bool.and_eq_true, ih]
    constructor
    · rintro ⟨h1, h2⟩ i h
      cases i with
      | zero => exact h1
      | succ i => exact h2 i (by simpa using h)
    · intro h
      exact ⟨h 0 (by simp), fun i hi => h (i + 1) (by simpa using hi)⟩
/-- Of two keys: either the one is below the other, or not. -/
theorem le_cases (a b : ByteArray) : (keyLt b a = true ∧ Op.bytesLess a.toList b.toList = false ∧ (a.toList == b.toList) = false) ∨ (keyLt b a = false ∧ ((Op.bytesLess a.toList b.toList = true ∧ (a.toList == b.toList) = false) ∨ (a.toList = b.toList ∧ (a.toList == b.toList) = true))) := by
  cases h : keyLt b a with
  | true =>
    refine .inl ⟨rfl, ?_, ?_⟩
    · cases hc : Op.bytesLess a.toList b.toList with
      | false => rfl
      | true => exact absurd (less_trans (show Op.bytesLess b.toList a.toList = true from h) hc) (by rw [less_irrefl]; simp)
    · rw [beq_eq_false_iff_ne]
      intro e
      have h1 : Op.bytesLess b.toList a.toList = true := h
      rw [e, less_irrefl] at h1
      cases h1
  | false =>
    refine .inr ⟨rfl, ?_⟩
    by_cases e : a.toList = b.toList
    · exact .inr ⟨e, by simpa using e⟩
    · exact .inl ⟨less_total (show Op.bytesLess b.toList a.toList = false from h) (fun h => e h.symm), by simpa using e⟩

mutual
/-- A value is one. -/
def V.snd : V → Bool
  | .mk k n s l o => plainB (.mk k n s l o) && risesB o && V.snds l && F.snds o
def V.snds : List V → Bool
  | [] => true
  | v :: vs => v.snd && V.snds vs
def F.snd : F → Bool
  | .mk k v => Lib.validD k.data.toList && v.snd
def F.snds : List F → Bool
  | [] => true
  | f :: fs => f.snd && F.snds fs
end
theorem V.snd_eq (v : V) : v.snd = (plainB v && risesB v.o && V.snds v.l && F.snds v.o) := by cases v; rw [V.snd]; rfl
theorem F.snd_eq (f : F) : f.snd = (Lib.validD f.key.data.toList && f.v.snd) := by cases f; rw [F.snd]; rfl
theorem V.snds_all : ∀ l : List V, V.snds l = l.all V.snd
  | [] => by simp [V.snds]
  | v :: vs => by rw [V.snds, V.snds_all vs]; rfl
theorem F.snds_all : ∀ l : List F, F.snds l = l.all F.snd
  | [] => by simp [F.snds]
  | v :: vs => by rw [F.snds, F.snds_all vs]; rfl
end Go.Proofs.YtioplgfopillnaaDoor

/- val.Sound at any value. -/
set_option linter.unusedSimpArgs false
set_option linter.unusedVariables false
namespace Go.Proofs.YtioplgfopillnaaDoor
open Go.RowKit Go.Shelf
set_option linter.unusedVariables false
attribute [local go_sem] Oper.semAt_some

/-- As long as a text may be. -/
def BigR : Nat := 140737488355328
theorem bigR {n : Nat} (h : n ≤ BigR) : n ≤ 9223372036854775807 := by unfold BigR at h; omega
end Go.Proofs.YtioplgfopillnaaDoor
