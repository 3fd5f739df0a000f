/- VStr, ValWeight, RefSound, LayV, Vld, ValPlain, ValRise, ValSound: laid together. -/
import Derived.Test.YtggkidnlmaindaaDoorPxB7
import Derived.Test.YtggkidnlmaindaaDoorPxB13
import Derived.Test.YtggkidnlmaindaaDoorPxB4
import Derived.Shelf.Unicode.ValidAny
import Derived.Ground.NamesProg
import Derived.Test.YtggkidnlmaindaaDoorProg
import Derived.Test.YtggkidnlmaindaaDoorRows
import Derived.Lib.LaidU8T
import Derived.LaidByTextLater
set_option linter.unusedSimpArgs false
set_option linter.unusedVariables false
set_option maxHeartbeats 25600000
set_option maxRecDepth 20000
namespace Go.Proofs.YtggkidnlmaindaaDoor
open Go.RowKit
mutual
def VStr (R : Nat) : V → Prop
 | .mk _ _ s l o => s.size ≤ R ∧ VStrs R l ∧ FStrs R o
def VStrs (R : Nat) : List V → Prop
 | [] => True
 | v :: vs => VStr R v ∧ VStrs R vs
def FStr (R : Nat) : F → Prop
 | .mk k v => k.size ≤ R ∧ VStr R v
def FStrs (R : Nat) : List F → Prop
 | [] => True
 | f :: fs => FStr R f ∧ FStrs R fs
end
theorem VStr_iff (R : Nat) (v : V) : VStr R v ↔ v.s.size ≤ R ∧ VStrs R v.l ∧ FStrs R v.o := by cases v; rw [VStr]; exact Iff.rfl
theorem FStr_iff (R : Nat) (f : F) : FStr R f ↔ f.key.size ≤ R ∧ VStr R f.v := by cases f; rw [FStr]; exact Iff.rfl
theorem VStrs_iff (R : Nat) : ∀ (l : List V), VStrs R l ↔ ∀ x ∈ l, VStr R x
 | [] => by simp [VStrs]
 | v :: vs => by rw [VStrs, VStrs_iff R vs]; simp
theorem FStrs_iff (R : Nat) : ∀ (l : List F), FStrs R l ↔ ∀ x ∈ l, FStr R x
 | [] => by simp [FStrs]
 | v :: vs => by rw [FStrs, FStrs_iff R vs]; simp
theorem VStr.s {R : Nat} {x : V} (h : VStr R x) : x.s.size ≤ R := ((VStr_iff R x).1 h).1
theorem VStr.l {R : Nat} {x y : V} (h : VStr R x) (hy : y ∈ x.l) : VStr R y := (VStrs_iff R _).1 ((VStr_iff R x).1 h).2.1 y hy
theorem VStr.o {R : Nat} {x : V} {f : F} (h : VStr R x) (hy : f ∈ x.o) : f.key.size ≤ R ∧ VStr R f.v := (FStr_iff R f).1 ((FStrs_iff R _).1 ((VStr_iff R x).1 h).2.2 f hy)
def StrIs (ts : List Tk) (x : V) : Prop := ∀ R, (∀ t ∈ ts, t.s.size ≤ R) → VStr R x
def StrV (ts : List Tk) (xs : List V) : Prop := ∀ x ∈ xs, StrIs ts x
def StrF (ts : List Tk) (xs : List F) : Prop := ∀ f ∈ xs, (∀ R, (∀ t ∈ ts, t.s.size ≤ R) → f.key.size ≤ R) ∧ StrIs ts f.v
theorem StrV.nil (ts : List Tk) : StrV ts [] := fun x h => by simp at h
theorem StrF.nil (ts : List Tk) : StrF ts [] := fun x h => by simp at h
theorem StrIs.sub {ts ts' : List Tk} {x : V} (h : StrIs ts x) (hs : ∀ t ∈ ts, t ∈ ts') : StrIs ts' x := fun R hR => h R fun t ht => hR t (hs t ht)
theorem StrIs.key {ts : List Tk} {x : V} (h : StrIs ts x) : ∀ R, (∀ t ∈ ts, t.s.size ≤ R) → x.s.size ≤ R := fun R hR => (h R hR).s
theorem StrV.snoc {ts : List Tk} {xs : List V} {x : V} (h : StrV ts xs) (hx : StrIs ts x) : StrV ts (xs ++ [x]) := fun y hy => by
 rcases List.mem_append.1 hy with hy | hy
 ·exact h y hy
 ·rw [List.mem_singleton.1 hy]; exact hx
theorem StrF.snoc {ts : List Tk} {xs : List F} {x : V} (h : StrF ts xs) (hx : StrIs ts x) : StrF ts (xs ++ [F.mk x.s x]) := fun y hy => by
 rcases List.mem_append.1 hy with hy | hy
 ·exact h y hy
 ·rw [List.mem_singleton.1 hy]; exact ⟨hx.key, hx⟩
mutual
theorem SV.str : ∀ (v : V), SV v → VStr 900 v
 | .mk k n s l o, h => by
  rw [SV] at h
  rw [VStr]
  refine ⟨?_, SVs.str l h.2.1, SFs.str o h.2.2.1⟩
  rcases h.1 with h | h | h | h | h | h
  ·rw [h.2.2.1]; decide
  ·rw [h.2.2.1]; decide
  ·rw [h.2.1]; decide
  ·exact h.2.2.1.2
  ·rw [h.2.2.1]; decide
  ·rw [h.2.2.1]; decide
theorem SVs.str : ∀ (l : List V), SVs l → VStrs 900 l
 | [], _ => by rw [VStrs]; trivial
 | v :: vs, h => by rw [SVs] at h; rw [VStrs]; exact ⟨SV.str v h.1, SVs.str vs h.2⟩
theorem SF.str : ∀ (f : F), SF f → FStr 900 f
 | .mk k v, h => by rw [SF] at h; rw [FStr]; exact ⟨h.1.2, SV.str v h.2⟩
theorem SFs.str : ∀ (l : List F), SFs l → FStrs 900 l
 | [], _ => by rw [FStrs]; trivial
 | v :: vs, h => by rw [SFs] at h; rw [FStrs]; exact ⟨SF.str v h.1, SFs.str vs h.2⟩
end
mutual
def V.weight : V → Nat
 | .mk _ _ s l o => 1 + s.size + (V.weights l + F.weights o)
def V.weights : List V → Nat
 | [] => 0
 | v :: vs => v.weight + V.weights vs
def F.weight : F → Nat
 | .mk k v => k.size + v.weight
def F.weights : List F → Nat
 | [] => 0
 | f :: fs => f.weight + F.weights fs
end
mutual
def V.deep : V → Nat
 | .mk _ _ _ l o => max (V.deeps l) (F.deeps o)
def V.deeps : List V → Nat
 | [] => 0
 | v :: vs => max (v.deep + 1) (V.deeps vs)
def F.deep : F → Nat
 | .mk _ v => v.deep + 1
def F.deeps : List F → Nat
 | [] => 0
 | f :: fs => max f.deep (F.deeps fs)
end
theorem V.weight_eq (v : V) : v.weight = 1 + v.s.size + (V.weights v.l + F.weights v.o) := by cases v; rw [V.weight]; rfl
theorem F.weight_eq (f : F) : f.weight = f.key.size + f.v.weight := by cases f; rw [F.weight]; rfl
theorem V.deep_eq (v : V) : v.deep = max (V.deeps v.l) (F.deeps v.o) := by cases v; rw [V.deep]; rfl
theorem F.deep_eq (f : F) : f.deep = f.v.deep + 1 := by cases f; rw [F.deep]; rfl
theorem V.weights_append : ∀ a b : List V, V.weights (a ++ b) = V.weights a + V.weights b
 | [], b => by simp [V.weights]
 | v :: vs, b => by rw [List.cons_append, V.weights, V.weights, V.weights_append vs b]; omega
theorem F.weights_append : ∀ a b : List F, F.weights (a ++ b) = F.weights a + F.weights b
 | [], b => by simp [F.weights]
 | v :: vs, b => by rw [List.cons_append, F.weights, F.weights, F.weights_append vs b]; omega
theorem V.deeps_append : ∀ a b : List V, V.deeps (a ++ b) = max (V.deeps a) (V.deeps b)
 | [], b => by simp [V.deeps]
 | v :: vs, b => by rw [List.cons_append, V.deeps, V.deeps, V.deeps_append vs b]; omega
theorem F.deeps_append : ∀ a b : List F, F.deeps (a ++ b) = max (F.deeps a) (F.deeps b)
 | [], b => by simp [F.deeps]
 | v :: vs, b => by rw [List.cons_append, F.deeps, F.deeps, F.deeps_append vs b]; omega
theorem V.weights_one (v : V) : V.weights [v] = v.weight := by simp [V.weights]
theorem F.weights_one (v : F) : F.weights [v] = v.weight := by simp [F.weights]
theorem V.deeps_one (v : V) : V.deeps [v] = v.deep + 1 := by simp [V.deeps]
theorem F.deeps_one (v : F) : F.deeps [v] = v.deep := by simp [F.deeps]
end Go.Proofs.YtggkidnlmaindaaDoor
namespace Go.Proofs.YtggkidnlmaindaaDoor
open Go.RowKit Go.Shelf
attribute [local go_sem] Oper.semAt_some
theorem wrap_add (a b c : Int) : wrap64 (wrap64 a + wrap64 (b + wrap64 c)) = wrap64 (a + (b + c)) := by unfold wrap64; omega
end Go.Proofs.YtggkidnlmaindaaDoor
namespace Go.Proofs.YtggkidnlmaindaaDoor
open Go.RowKit
def ValAsc (w0 : World) : Prop := ∀ s, Asc s → ∀ w', Ext w0 w' → Calls Tryd.prog 32 #[.string s] w' fun e w'' => e = .returned (.bool true) ∧ Ext w' w''
theorem ValAsc.ext {w0 w : World} (h : ValAsc w0) (he : Ext w0 w) : ValAsc w := fun s hs w' h' => h s hs w' (he.ext h')
theorem rise_at {o : List F} (h : Rise o) {j : Nat} (hj : j + 1 < o.length) : keyLt o[j].key o[j + 1].key = true := List.pairwise_iff_getElem.1 ((rise_iff o).1 h) j (j + 1) (by omega) hj (by omega)
end Go.Proofs.YtggkidnlmaindaaDoor
namespace Go.Proofs
open Go.Shelf
def Tryd.laysValid_ren : Go.Shelf.Ren := ⟨fun | 196 => 32 | 259 => 54 | n => n, fun | 9 => 9 | 4 => 4 | 3 => 3 | 5 => 5 | 12 => 12 | 119 => 93 | 0 => 0 | 46 => 71 | 139 => 96 | 138 => 95 | 53 => 118 | n => n, fun | 3 => 0 | 4 => 1 | n => n⟩
theorem Tryd.laysValid : Go.Proofs.Lays.n196 Tryd.prog Tryd.laysValid_ren := {
 mixed := by kernel_rfl
 f196 := Tryd.func32.trans (congrArg some (by kernel_rfl))
 f259 := Tryd.func54.trans (congrArg some (by kernel_rfl))
 t0 := Tryd.underlying0
 a0 := Tryd.isAgg0
 z0 := Tryd.sizeOf0
 v0 := Tryd.zeroValue0
 t3 := Tryd.underlying3
 a3 := Tryd.isAgg3
 z3 := Tryd.sizeOf3
 v3 := Tryd.zeroValue3
 t4 := Tryd.underlying4
 a4 := Tryd.isAgg4
 z4 := Tryd.sizeOf4
 v4 := Tryd.zeroValue4
 t5 := Tryd.underlying5
 a5 := Tryd.isAgg5
 z5 := Tryd.sizeOf5
 v5 := Tryd.zeroValue5
 t9 := Tryd.underlying9
 a9 := Tryd.isAgg9
 z9 := Tryd.sizeOf9
 v9 := Tryd.zeroValue9
 t12 := Tryd.underlying12
 a12 := Tryd.isAgg12
 z12 := Tryd.sizeOf12
 v12 := Tryd.zeroValue12
 t46 := Tryd.underlying71
 a46 := Tryd.isAgg71
 z46 := Tryd.sizeOf71
 v46 := Tryd.zeroValue71
 t53 := Tryd.underlying118
 a53 := Tryd.isAgg118
 z53 := Tryd.sizeOf118
 v53 := Tryd.zeroValue118
 t119 := Tryd.underlying93
 a119 := Tryd.isAgg93
 z119 := Tryd.sizeOf93
 t138 := Tryd.underlying95
 a138 := Tryd.isAgg95
 z138 := Tryd.sizeOf95
 v138 := Tryd.zeroValue95
 t139 := Tryd.underlying96
 a139 := Tryd.isAgg96
 z139 := Tryd.sizeOf96
 v139 := Tryd.zeroValue96
 g3 := by kernel_rfl
 g4 := by kernel_rfl }
end Go.Proofs
namespace Go.Proofs.YtggkidnlmaindaaDoor
open Go.RowKit
def ValAny (w0 : World) : Prop := ∀ s : ByteArray, s.size ≤ 9223372036854775807 → ∀ w', Ext w0 w' → Calls Tryd.prog 32 #[.string s] w' fun e w'' => e = .returned (.bool (Lib.validD s.data.toList)) ∧ Ext w' w''
theorem ValAny.ext {w0 w : World} (h : ValAny w0) (he : Ext w0 w) : ValAny w := fun s hs w' h' => h s hs w' (he.ext h')
theorem valid_asc {s : ByteArray} (h : Asc s) : Lib.validD s.data.toList = true := by
 have := Lib.validD_ascii s.data.toList.length s.data.toList (fun b hb => h.1 b (List.mem_of_mem_take hb))
 rw [this, List.drop_length]
 exact Lib.validD_nil
theorem ValAny.asc {w0 : World} (h : ValAny w0) : ValAsc w0 := fun s hs w' he => by
 have := h s (by have := hs.2; omega) w' he
 rw [valid_asc hs] at this
 exact this
theorem val_any {w0 : World} (hT : Lib.Utf8Tabs (Tryd.laysValid_ren.g 3) (Tryd.laysValid_ren.g 4) w0) : ValAny w0 := fun s hs w' he =>
 (Any.utf8_ValidString Tryd.laysValid s w' hs (Utf8Tabs_below hT he.toBelow)).mono fun e w'' h => ⟨h.1, Keep.of_below h.2 fun k h1 h2 => absurd h1 (Nat.not_lt.2 h2)⟩
theorem val_laid {w0 : World} {l : List (String × DataW Unit)} (h : laidMetH Tryd.prog l w0) (hp : l = [("unicode/utf8.acceptRanges", Rows.laid_unicode_utf8_acceptRanges), ("unicode/utf8.first", Rows.laid_unicode_utf8_first)]) : ValAny w0 := by
 subst hp
 rw [MakeChecks.laidMetH_plain _ _ _ (by kernel_rfl)] at h
 have e1 : (Rows.laid_unicode_utf8_first : DataW Unit) = Lib.firstData := by kernel_rfl
 have e2 : (Rows.laid_unicode_utf8_acceptRanges : DataW Unit) = Lib.acceptData := by kernel_rfl
 have h3 : Lib.VarReads Tryd.prog w0 "unicode/utf8.first" Lib.firstData := by rw [← e1]; exact Lib.laidMet.reads h (.tail _ (.head _))
 have h4 : Lib.VarReads Tryd.prog w0 "unicode/utf8.acceptRanges" Lib.acceptData := by rw [← e2]; exact Lib.laidMet.reads h (.head _)
 exact val_any (utf8Tabs_of_readsT (U8Types.of196 Tryd.laysValid) ⟨by kernel_rfl, by kernel_rfl, by kernel_rfl, by kernel_rfl, by kernel_rfl, by kernel_rfl, by kernel_rfl⟩ h3 h4)
def plainB (x : V) : Bool :=
 if x.kind = 0 then x.n == 0 && x.s.toList.isEmpty && x.l.isEmpty && x.o.isEmpty else
 if x.kind = 1 then (x.n == 0 || x.n == 1) && x.s.toList.isEmpty && x.l.isEmpty && x.o.isEmpty else
 if x.kind = 2 then x.s.toList.isEmpty && x.l.isEmpty && x.o.isEmpty else
 if x.kind = 3 then x.n == 0 && Lib.validD x.s.data.toList && x.l.isEmpty && x.o.isEmpty else
 if x.kind = 4 then x.n == 0 && x.s.toList.isEmpty && x.o.isEmpty else
 if x.kind = 5 then x.n == 0 && x.s.toList.isEmpty && x.l.isEmpty else false
def risesB : List F → Bool
 | [] => true
 | a :: r => (match r with | [] => true | b :: _ => keyLt a.key b.key) && risesB r
theorem risesB_iff : ∀ (o : List F), risesB o = true ↔ ∀ i (h : i + 1 < o.length), keyLt o[i].key o[i + 1].key = true
 | [] => by simp [risesB]
 | [a] => by simp [risesB]
 | a :: b :: r => by
  have ih := risesB_iff (b :: r)
  rw [risesB, Bool.and_eq_true, ih]
  constructor
  ·rintro ⟨h1, h2⟩ i h
   cases i with
   | zero => exact h1
   | succ i => exact h2 i (by simpa using h)
  ·intro h
   exact ⟨h 0 (by simp), fun i hi => h (i + 1) (by simpa using hi)⟩
theorem le_cases (a b : ByteArray) : (keyLt b a = true ∧ Op.bytesLess a.toList b.toList = false ∧ (a.toList == b.toList) = false) ∨ (keyLt b a = false ∧ ((Op.bytesLess a.toList b.toList = true ∧ (a.toList == b.toList) = false) ∨ (a.toList = b.toList ∧ (a.toList == b.toList) = true))) := by
 cases h : keyLt b a with
 | true =>
  refine .inl ⟨rfl, ?_, ?_⟩
  ·cases hc : Op.bytesLess a.toList b.toList with
   | false => rfl
   | true => exact absurd (less_trans (show Op.bytesLess b.toList a.toList = true from h) hc) (by rw [less_irrefl]; simp)
  ·rw [beq_eq_false_iff_ne]
   intro e
   have h1 : Op.bytesLess b.toList a.toList = true := h
   rw [e, less_irrefl] at h1
   cases h1
 | false =>
  refine .inr ⟨rfl, ?_⟩
  by_cases e : a.toList = b.toList
  ·exact .inr ⟨e, by simpa using e⟩
  ·exact .inl ⟨less_total (show Op.bytesLess b.toList a.toList = false from h) (fun h => e h.symm), by simpa using e⟩
mutual
def V.snd : V → Bool
 | .mk k n s l o => plainB (.mk k n s l o) && risesB o && V.snds l && F.snds o
def V.snds : List V → Bool
 | [] => true
 | v :: vs => v.snd && V.snds vs
def F.snd : F → Bool
 | .mk k v => Lib.validD k.data.toList && v.snd
def F.snds : List F → Bool
 | [] => true
 | f :: fs => f.snd && F.snds fs
end
theorem V.snd_eq (v : V) : v.snd = (plainB v && risesB v.o && V.snds v.l && F.snds v.o) := by cases v; rw [V.snd]; rfl
theorem F.snd_eq (f : F) : f.snd = (Lib.validD f.key.data.toList && f.v.snd) := by cases f; rw [F.snd]; rfl
theorem V.snds_all : ∀ l : List V, V.snds l = l.all V.snd
 | [] => by simp [V.snds]
 | v :: vs => by rw [V.snds, V.snds_all vs]; rfl
theorem F.snds_all : ∀ l : List F, F.snds l = l.all F.snd
 | [] => by simp [F.snds]
 | v :: vs => by rw [F.snds, F.snds_all vs]; rfl
end Go.Proofs.YtggkidnlmaindaaDoor
namespace Go.Proofs.YtggkidnlmaindaaDoor
open Go.RowKit Go.Shelf
attribute [local go_sem] Oper.semAt_some
def BigR : Nat := 140737488355328
theorem bigR {n : Nat} (h : n ≤ BigR) : n ≤ 9223372036854775807 := by unfold BigR at h; omega
end Go.Proofs.YtggkidnlmaindaaDoor
