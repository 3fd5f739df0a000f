/- SoundL, LawOneA, RefSound, LayV, Vld, VStr, ValPlain, ValRise, EncD: laid together. -/
import Derived.Test.YtihaliffcobacaaGreatDoorSbB7
import Derived.Test.YtihaliffcobacaaGreatDoorSbB6
import Derived.Laws.Strings
import Derived.Test.YtihaliffcobacaaGreatDoorSbB4
import Derived.Test.YtihaliffcobacaaGreatDoorSbB5
import Derived.Laws.Bits128
import Derived.Shelf.Unicode.ValidAny
import Derived.Ground.NamesProg
import Derived.Test.YtihaliffcobacaaGreatDoorProg
import Derived.Test.YtihaliffcobacaaGreatDoorRows
import Derived.Lib.LaidU8T
import Derived.LaidByTextLater
import Derived.Test.YtihaliffcobacaaGreatDoorSbB2
set_option linter.unusedSimpArgs false
set_option linter.unusedVariables false
set_option maxHeartbeats 25600000
set_option maxRecDepth 20000
namespace Go.Proofs.YtihaliffcobacaaGreatDoor
open Go.RowKit
theorem rise_iff : ∀ (o : List F), Rise o ↔ o.Pairwise fun f g => keyLt f.key g.key = true
 | [] => by simp [Rise]
 | f :: fs => by rw [Rise, List.pairwise_cons, rise_iff fs]
theorem take_fieldL (o : List F) (key : ByteArray) : o.take (fieldL o key) = o.takeWhile fun f => keyLt f.key key := by
 unfold fieldL
 exact (List.prefix_iff_eq_take.1 (List.takeWhile_prefix _)).symm
theorem take_fieldL_lt {o : List F} {key : ByteArray} {f : F} (h : f ∈ o.take (fieldL o key)) : keyLt f.key key = true := by
 rw [take_fieldL] at h
 have := List.all_takeWhile (l := o) (p := fun f => keyLt f.key key)
 rw [List.all_eq_true] at this
 exact this f h
theorem fieldL_head : ∀ {o : List F} {key : ByteArray} (h : fieldL o key < o.length), keyLt (o[fieldL o key]).key key = false
 | [], key, h => by simp at h
 | f :: fs, key, h => by
  by_cases hf : keyLt f.key key = true
  ·have e : fieldL (f :: fs) key = fieldL fs key + 1 := by unfold fieldL; rw [List.takeWhile_cons, hf]; rfl
   have h2 : fieldL fs key < fs.length := by rw [e] at h; simpa using h
   have := fieldL_head h2
   simp only [e, List.getElem_cons_succ]
   exact this
  ·have e : fieldL (f :: fs) key = 0 := by unfold fieldL; rw [List.takeWhile_cons, if_neg hf]; rfl
   simp only [e, List.getElem_cons_zero]
   simpa using hf
theorem key_eq {a b : ByteArray} (h : a.toList = b.toList) : a = b := by
 have h1 : a.data.toList = b.data.toList := by rw [← ByteArray.toList_eq, ← ByteArray.toList_eq]; exact h
 cases a; cases b
 simp only at h1
 rw [Array.toList_inj.1 h1]
theorem drop_lt {o : List F} {key : ByteArray} (hr : Rise o) {g : F} (h : g ∈ o.drop (if fieldIs o key = true then fieldL o key + 1 else fieldL o key)) : keyLt key g.key = true := by
 rw [rise_iff] at hr
 by_cases hk : fieldL o key < o.length
 ·have h0 := fieldL_head hk
  have hd := List.drop_eq_getElem_cons hk
  have hr2 : (o.drop (fieldL o key)).Pairwise fun f g => keyLt f.key g.key = true := hr.sublist (List.drop_sublist _ _)
  rw [hd, List.pairwise_cons] at hr2
  have hi := fieldIs_some hk rfl
  by_cases hc : fieldIs o key = true
  ·rw [if_pos hc] at h
   rw [hi] at hc
   have he := key_eq (by simpa using hc)
   have := hr2.1 g h
   rwa [he] at this
  ·rw [if_neg hc, hd] at h
   rw [hi] at hc
   have hne : (o[fieldL o key]).key.toList ≠ key.toList := by simpa using hc
   have hlt := less_total h0 hne
   rcases List.mem_cons.1 h with rfl | h
   ·exact hlt
   ·exact less_trans hlt (hr2.1 g h)
 ·have hc : fieldIs o key = false := fieldIs_none (by have := fieldL_le o key; omega)
  rw [if_neg (by simp [hc])] at h
  rw [List.drop_eq_nil_of_le (by omega)] at h
  cases h
theorem withL_rise {o : List F} {key : ByteArray} {x : V} (hr : Rise o) : Rise (withL o key x) := by
 have hr' := (rise_iff o).1 hr
 rw [rise_iff]
 unfold withL
 rw [List.pairwise_append, List.pairwise_cons]
 refine ⟨hr'.sublist (List.take_sublist _ _), ⟨fun g hg => drop_lt hr hg, hr'.sublist (List.drop_sublist _ _)⟩, fun a ha b hb => ?_⟩
 have h1 := take_fieldL_lt ha
 rcases List.mem_cons.1 hb with rfl | hb
 ·exact h1
 ·exact less_trans h1 (drop_lt hr hb)
theorem withL_sfs {o : List F} {key : ByteArray} {x : V} (h : SFs o) (hk : Asc key) (hx : SV x) : SFs (withL o key x) := by
 rw [SFs_iff] at h ⊢
 intro f hf
 unfold withL at hf
 rcases List.mem_append.1 hf with hf | hf
 ·exact h f (List.mem_of_mem_take hf)
 ·rcases List.mem_cons.1 hf with rfl | hf
  ·rw [SF_iff]; exact ⟨hk, hx⟩
  ·exact h f (List.mem_of_mem_drop hf)
theorem F.sizes_take (o : List F) (k k' : Nat) (h : k ≤ k') : F.sizes (o.take k) + F.sizes (o.drop k') ≤ F.sizes o := by
 have h1 : F.sizes (o.take k) + F.sizes (o.drop k) = F.sizes o := by rw [← F.sizes_append, List.take_append_drop]
 have h2 : F.sizes ((o.drop k).take (k' - k)) + F.sizes ((o.drop k).drop (k' - k)) = F.sizes (o.drop k) := by rw [← F.sizes_append, List.take_append_drop]
 rw [List.drop_drop, show k + (k' - k) = k' from by omega] at h2
 omega
theorem withL_sizes (o : List F) (key : ByteArray) (x : V) : F.sizes (withL o key x) ≤ F.sizes o + x.size := by
 unfold withL
 rw [F.sizes_append, F.sizes, F.size_eq]
 have := F.sizes_take o (fieldL o key) (if fieldIs o key = true then fieldL o key + 1 else fieldL o key) (by split <;> omega)
 show F.sizes _ + (x.size + F.sizes _) ≤ _
 omega
abbrev TTOK : Nat := 59
theorem set5_to {w : World} {g : Nat} {T : TypeId} {cur : Array Value} (h : Blk w g T cur) (hc : cur.size = 5) (a b c d e : Value) : Blk (set5 w g 0 a b c d e) g T #[a, b, c, d, e] := by
 obtain ⟨cur', h5, h6⟩ := set5_blk h 0 a b c d e (by omega)
 have : cur' = #[a, b, c, d, e] := by
  apply Array.toList_inj.1
  rw [h6]
  have : cur.toList.drop 5 = [] := List.drop_eq_nil_of_le (by simp; omega)
  simp [this]
 rw [this] at h5
 exact h5
theorem blk5 {w : World} {b : Nat} {T : TypeId} {a0 a1 a2 a3 a4 : Value} (h : Blk w b T #[a0, a1, a2, a3, a4]) : w.cell? ⟨b, 0, none⟩ = some a0 ∧ w.cell? ⟨b, 1, none⟩ = some a1 ∧ w.cell? ⟨b, 2, none⟩ = some a2 ∧ w.cell? ⟨b, 3, none⟩ = some a3 ∧ w.cell? ⟨b, 4, none⟩ = some a4 :=
 ⟨h.cell 0, h.cell 1, h.cell 2, h.cell 3, h.cell 4⟩
theorem i64_and1 (n : Int) : bits .and .i64 n 1 = 0 ∨ bits .and .i64 n 1 = 1 := by
 have h1 : (BitVec.ofInt 64 1).toNat = 2 ^ 1 - 1 := by decide
 have key : (BitVec.ofInt 64 n &&& BitVec.ofInt 64 1).toNat = (n % ((2 ^ 64 : Nat) : Int)).toNat % 2 ^ 1 := by
  rw [BitVec.toNat_and, BitVec.toNat_ofInt, h1, Nat.and_two_pow_sub_one_eq_mod]
 have : bits .and .i64 n 1 = n % 2 := by
  show IntKind.i64.wrap ((BitVec.ofInt 64 n &&& BitVec.ofInt 64 1).toNat : Nat) = n % 2
  rw [key, IntKind.wrap_i64]
  omega
 omega
theorem flat_at (w : World) (S : BS) (k : UInt8) (n : Int) (s : ByteArray) : VAt w S (.agg #[U8 k, .int .i64 n, .string s, .slice none 0 0, .slice none 0 0]) (.mk k n s [] []) := ⟨_, _, rfl, Sl.nil _ _, Sl.nil _ _⟩
theorem flat_sv {k : UInt8} {n : Int} {s : ByteArray} (h : KindOk k n s [] []) : SV (.mk k n s [] []) := by
 rw [SV]; exact ⟨h, by rw [SVs]; trivial, by rw [SFs]; trivial, trivial⟩
theorem flat_size (k : UInt8) (n : Int) (s : ByteArray) : (V.mk k n s [] []).size = 1 := by rw [V.size]; simp [V.sizes, F.sizes]
def ValAsc (w0 : World) : Prop := ∀ s, Asc s → ∀ w', Ext w0 w' → Calls Tryz.prog 128 #[.string s] w' fun e w'' => e = .returned (.bool true) ∧ Ext w' w''
theorem ValAsc.ext {w0 w : World} (h : ValAsc w0) (he : Ext w0 w) : ValAsc w := fun s hs w' h' => h s hs w' (he.ext h')
theorem rise_at {o : List F} (h : Rise o) {j : Nat} (hj : j + 1 < o.length) : keyLt o[j].key o[j + 1].key = true := List.pairwise_iff_getElem.1 ((rise_iff o).1 h) j (j + 1) (by omega) hj (by omega)
end Go.Proofs.YtihaliffcobacaaGreatDoor
namespace Go.Proofs
open Go.Shelf
def Tryz.laysValid_ren : Go.Shelf.Ren := ⟨fun | 196 => 128 | 259 => 146 | n => n, fun | 9 => 9 | 4 => 4 | 3 => 3 | 5 => 5 | 12 => 12 | 119 => 216 | 0 => 0 | 46 => 120 | 139 => 219 | 138 => 218 | 53 => 119 | n => n, fun | 3 => 0 | 4 => 1 | n => n⟩
theorem Tryz.laysValid : Go.Proofs.Lays.n196 Tryz.prog Tryz.laysValid_ren := {
 mixed := by kernel_rfl
 f196 := Tryz.func128.trans (congrArg some (by kernel_rfl))
 f259 := Tryz.func146.trans (congrArg some (by kernel_rfl))
 t0 := Tryz.underlying0
 a0 := Tryz.isAgg0
 z0 := Tryz.sizeOf0
 v0 := Tryz.zeroValue0
 t3 := Tryz.underlying3
 a3 := Tryz.isAgg3
 z3 := Tryz.sizeOf3
 v3 := Tryz.zeroValue3
 t4 := Tryz.underlying4
 a4 := Tryz.isAgg4
 z4 := Tryz.sizeOf4
 v4 := Tryz.zeroValue4
 t5 := Tryz.underlying5
 a5 := Tryz.isAgg5
 z5 := Tryz.sizeOf5
 v5 := Tryz.zeroValue5
 t9 := Tryz.underlying9
 a9 := Tryz.isAgg9
 z9 := Tryz.sizeOf9
 v9 := Tryz.zeroValue9
 t12 := Tryz.underlying12
 a12 := Tryz.isAgg12
 z12 := Tryz.sizeOf12
 v12 := Tryz.zeroValue12
 t46 := Tryz.underlying120
 a46 := Tryz.isAgg120
 z46 := Tryz.sizeOf120
 v46 := Tryz.zeroValue120
 t53 := Tryz.underlying119
 a53 := Tryz.isAgg119
 z53 := Tryz.sizeOf119
 v53 := Tryz.zeroValue119
 t119 := Tryz.underlying216
 a119 := Tryz.isAgg216
 z119 := Tryz.sizeOf216
 t138 := Tryz.underlying218
 a138 := Tryz.isAgg218
 z138 := Tryz.sizeOf218
 v138 := Tryz.zeroValue218
 t139 := Tryz.underlying219
 a139 := Tryz.isAgg219
 z139 := Tryz.sizeOf219
 v139 := Tryz.zeroValue219
 g3 := by kernel_rfl
 g4 := by kernel_rfl }
end Go.Proofs
namespace Go.Proofs.YtihaliffcobacaaGreatDoor
open Go.RowKit
def ValAny (w0 : World) : Prop := ∀ s : ByteArray, s.size ≤ 9223372036854775807 → ∀ w', Ext w0 w' → Calls Tryz.prog 128 #[.string s] w' fun e w'' => e = .returned (.bool (Lib.validD s.data.toList)) ∧ Ext w' w''
theorem ValAny.ext {w0 w : World} (h : ValAny w0) (he : Ext w0 w) : ValAny w := fun s hs w' h' => h s hs w' (he.ext h')
theorem valid_asc {s : ByteArray} (h : Asc s) : Lib.validD s.data.toList = true := by
 have := Lib.validD_ascii s.data.toList.length s.data.toList (fun b hb => h.1 b (List.mem_of_mem_take hb))
 rw [this, List.drop_length]
 exact Lib.validD_nil
theorem val_any {w0 : World} (hT : Lib.Utf8Tabs (Tryz.laysValid_ren.g 3) (Tryz.laysValid_ren.g 4) w0) : ValAny w0 := fun s hs w' he =>
 (Any.utf8_ValidString Tryz.laysValid s w' hs (Utf8Tabs_below hT he.toBelow)).mono fun e w'' h => ⟨h.1, Keep.of_below h.2 fun k h1 h2 => absurd h1 (Nat.not_lt.2 h2)⟩
theorem val_laid {w0 : World} {l : List (String × DataW Unit)} (h : laidMetH Tryz.prog l w0) (hp : l = [("unicode/utf8.acceptRanges", Rows.laid_unicode_utf8_acceptRanges), ("unicode/utf8.first", Rows.laid_unicode_utf8_first)]) : ValAny w0 := by
 subst hp
 rw [MakeChecks.laidMetH_plain _ _ _ (by kernel_rfl)] at h
 have e1 : (Rows.laid_unicode_utf8_first : DataW Unit) = Lib.firstData := by kernel_rfl
 have e2 : (Rows.laid_unicode_utf8_acceptRanges : DataW Unit) = Lib.acceptData := by kernel_rfl
 have h3 : Lib.VarReads Tryz.prog w0 "unicode/utf8.first" Lib.firstData := by rw [← e1]; exact Lib.laidMet.reads h (.tail _ (.head _))
 have h4 : Lib.VarReads Tryz.prog w0 "unicode/utf8.acceptRanges" Lib.acceptData := by rw [← e2]; exact Lib.laidMet.reads h (.head _)
 exact val_any (utf8Tabs_of_readsT (U8Types.of196 Tryz.laysValid) ⟨by kernel_rfl, by kernel_rfl, by kernel_rfl, by kernel_rfl, by kernel_rfl, by kernel_rfl, by kernel_rfl⟩ h3 h4)
mutual
def VStr (R : Nat) : V → Prop
 | .mk _ _ s l o => s.size ≤ R ∧ VStrs R l ∧ FStrs R o
def VStrs (R : Nat) : List V → Prop
 | [] => True
 | v :: vs => VStr R v ∧ VStrs R vs
def FStr (R : Nat) : F → Prop
 | .mk k v => k.size ≤ R ∧ VStr R v
def FStrs (R : Nat) : List F → Prop
 | [] => True
 | f :: fs => FStr R f ∧ FStrs R fs
end
theorem VStr_iff (R : Nat) (v : V) : VStr R v ↔ v.s.size ≤ R ∧ VStrs R v.l ∧ FStrs R v.o := by cases v; rw [VStr]; exact Iff.rfl
theorem FStr_iff (R : Nat) (f : F) : FStr R f ↔ f.key.size ≤ R ∧ VStr R f.v := by cases f; rw [FStr]; exact Iff.rfl
theorem VStrs_iff (R : Nat) : ∀ (l : List V), VStrs R l ↔ ∀ x ∈ l, VStr R x
 | [] => by simp [VStrs]
 | v :: vs => by rw [VStrs, VStrs_iff R vs]; simp
theorem FStrs_iff (R : Nat) : ∀ (l : List F), FStrs R l ↔ ∀ x ∈ l, FStr R x
 | [] => by simp [FStrs]
 | v :: vs => by rw [FStrs, FStrs_iff R vs]; simp
theorem VStr.s {R : Nat} {x : V} (h : VStr R x) : x.s.size ≤ R := ((VStr_iff R x).1 h).1
theorem VStr.l {R : Nat} {x y : V} (h : VStr R x) (hy : y ∈ x.l) : VStr R y := (VStrs_iff R _).1 ((VStr_iff R x).1 h).2.1 y hy
theorem VStr.o {R : Nat} {x : V} {f : F} (h : VStr R x) (hy : f ∈ x.o) : f.key.size ≤ R ∧ VStr R f.v := (FStr_iff R f).1 ((FStrs_iff R _).1 ((VStr_iff R x).1 h).2.2 f hy)
def StrIs (ts : List Tk) (x : V) : Prop := ∀ R, (∀ t ∈ ts, t.s.size ≤ R) → VStr R x
def StrV (ts : List Tk) (xs : List V) : Prop := ∀ x ∈ xs, StrIs ts x
def StrF (ts : List Tk) (xs : List F) : Prop := ∀ f ∈ xs, (∀ R, (∀ t ∈ ts, t.s.size ≤ R) → f.key.size ≤ R) ∧ StrIs ts f.v
theorem StrV.nil (ts : List Tk) : StrV ts [] := fun x h => by simp at h
theorem StrF.nil (ts : List Tk) : StrF ts [] := fun x h => by simp at h
theorem StrIs.sub {ts ts' : List Tk} {x : V} (h : StrIs ts x) (hs : ∀ t ∈ ts, t ∈ ts') : StrIs ts' x := fun R hR => h R fun t ht => hR t (hs t ht)
theorem StrIs.key {ts : List Tk} {x : V} (h : StrIs ts x) : ∀ R, (∀ t ∈ ts, t.s.size ≤ R) → x.s.size ≤ R := fun R hR => (h R hR).s
theorem StrV.snoc {ts : List Tk} {xs : List V} {x : V} (h : StrV ts xs) (hx : StrIs ts x) : StrV ts (xs ++ [x]) := fun y hy => by
 rcases List.mem_append.1 hy with hy | hy
 ·exact h y hy
 ·rw [List.mem_singleton.1 hy]; exact hx
theorem StrF.snoc {ts : List Tk} {xs : List F} {x : V} (h : StrF ts xs) (hx : StrIs ts x) : StrF ts (xs ++ [F.mk x.s x]) := fun y hy => by
 rcases List.mem_append.1 hy with hy | hy
 ·exact h y hy
 ·rw [List.mem_singleton.1 hy]; exact ⟨hx.key, hx⟩
theorem StrIs.mkV {ts : List Tk} {k : UInt8} {n : Int} {s : ByteArray} {xs : List V} (hs : ∀ R, (∀ t ∈ ts, t.s.size ≤ R) → s.size ≤ R) (h : StrV ts xs) : StrIs ts (.mk k n s xs []) := fun R hR => by
 rw [VStr]; exact ⟨hs R hR, (VStrs_iff R _).2 fun x hx => h x hx R hR, by rw [FStrs]; trivial⟩
theorem StrIs.mkF {ts : List Tk} {k : UInt8} {n : Int} {s : ByteArray} {xs : List F} (hs : ∀ R, (∀ t ∈ ts, t.s.size ≤ R) → s.size ≤ R) (h : StrF ts xs) : StrIs ts (.mk k n s [] xs) := fun R hR => by
 rw [VStr]; exact ⟨hs R hR, by rw [VStrs]; trivial, (FStrs_iff R _).2 fun x hx => (FStr_iff R x).2 ⟨(h x hx).1 R hR, (h x hx).2 R hR⟩⟩
mutual
theorem SV.str : ∀ (v : V), SV v → VStr 900 v
 | .mk k n s l o, h => by
  rw [SV] at h
  rw [VStr]
  refine ⟨?_, SVs.str l h.2.1, SFs.str o h.2.2.1⟩
  rcases h.1 with h | h | h | h | h | h
  ·rw [h.2.2.1]; decide
  ·rw [h.2.2.1]; decide
  ·rw [h.2.1]; decide
  ·exact h.2.2.1.2
  ·rw [h.2.2.1]; decide
  ·rw [h.2.2.1]; decide
theorem SVs.str : ∀ (l : List V), SVs l → VStrs 900 l
 | [], _ => by rw [VStrs]; trivial
 | v :: vs, h => by rw [SVs] at h; rw [VStrs]; exact ⟨SV.str v h.1, SVs.str vs h.2⟩
theorem SF.str : ∀ (f : F), SF f → FStr 900 f
 | .mk k v, h => by rw [SF] at h; rw [FStr]; exact ⟨h.1.2, SV.str v h.2⟩
theorem SFs.str : ∀ (l : List F), SFs l → FStrs 900 l
 | [], _ => by rw [FStrs]; trivial
 | v :: vs, h => by rw [SFs] at h; rw [FStrs]; exact ⟨SF.str v h.1, SFs.str vs h.2⟩
end
mutual
def V.weight : V → Nat
 | .mk _ _ s l o => 1 + s.size + (V.weights l + F.weights o)
def V.weights : List V → Nat
 | [] => 0
 | v :: vs => v.weight + V.weights vs
def F.weight : F → Nat
 | .mk k v => k.size + v.weight
def F.weights : List F → Nat
 | [] => 0
 | f :: fs => f.weight + F.weights fs
end
mutual
def V.deep : V → Nat
 | .mk _ _ _ l o => max (V.deeps l) (F.deeps o)
def V.deeps : List V → Nat
 | [] => 0
 | v :: vs => max (v.deep + 1) (V.deeps vs)
def F.deep : F → Nat
 | .mk _ v => v.deep + 1
def F.deeps : List F → Nat
 | [] => 0
 | f :: fs => max f.deep (F.deeps fs)
end
theorem V.weight_eq (v : V) : v.weight = 1 + v.s.size + (V.weights v.l + F.weights v.o) := by cases v; rw [V.weight]; rfl
theorem F.weight_eq (f : F) : f.weight = f.key.size + f.v.weight := by cases f; rw [F.weight]; rfl
theorem V.deep_eq (v : V) : v.deep = max (V.deeps v.l) (F.deeps v.o) := by cases v; rw [V.deep]; rfl
theorem F.deep_eq (f : F) : f.deep = f.v.deep + 1 := by cases f; rw [F.deep]; rfl
theorem V.weights_append : ∀ a b : List V, V.weights (a ++ b) = V.weights a + V.weights b
 | [], b => by simp [V.weights]
 | v :: vs, b => by rw [List.cons_append, V.weights, V.weights, V.weights_append vs b]; omega
theorem F.weights_append : ∀ a b : List F, F.weights (a ++ b) = F.weights a + F.weights b
 | [], b => by simp [F.weights]
 | v :: vs, b => by rw [List.cons_append, F.weights, F.weights, F.weights_append vs b]; omega
theorem V.deeps_append : ∀ a b : List V, V.deeps (a ++ b) = max (V.deeps a) (V.deeps b)
 | [], b => by simp [V.deeps]
 | v :: vs, b => by rw [List.cons_append, V.deeps, V.deeps, V.deeps_append vs b]; omega
theorem F.deeps_append : ∀ a b : List F, F.deeps (a ++ b) = max (F.deeps a) (F.deeps b)
 | [], b => by simp [F.deeps]
 | v :: vs, b => by rw [List.cons_append, F.deeps, F.deeps, F.deeps_append vs b]; omega
theorem V.weights_one (v : V) : V.weights [v] = v.weight := by simp [V.weights]
theorem F.weights_one (v : F) : F.weights [v] = v.weight := by simp [F.weights]
theorem V.deeps_one (v : V) : V.deeps [v] = v.deep + 1 := by simp [V.deeps]
theorem F.deeps_one (v : F) : F.deeps [v] = v.deep := by simp [F.deeps]
def plainB (x : V) : Bool :=
 if x.kind = 0 then x.n == 0 && x.s.toList.isEmpty && x.l.isEmpty && x.o.isEmpty else
 if x.kind = 1 then (x.n == 0 || x.n == 1) && x.s.toList.isEmpty && x.l.isEmpty && x.o.isEmpty else
 if x.kind = 2 then x.s.toList.isEmpty && x.l.isEmpty && x.o.isEmpty else
 if x.kind = 3 then x.n == 0 && Lib.validD x.s.data.toList && x.l.isEmpty && x.o.isEmpty else
 if x.kind = 4 then x.n == 0 && x.s.toList.isEmpty && x.o.isEmpty else
 if x.kind = 5 then x.n == 0 && x.s.toList.isEmpty && x.l.isEmpty else false
theorem len_isEmpty {α : Type} (l : List α) : ((l.length : Int) == 0) = l.isEmpty := by cases l <;> simp; omega
theorem plain_any (w0 : World) (hv : ValAny w0) (x : V) (u : Value) (S : BS) (w : World) (he : Ext w0 w) (hs : x.s.size ≤ 9223372036854775807) (hu : VAt w S u x) :
  Calls Tryz.prog 125 #[u] w fun e w' => e = .returned (.bool (plainB x)) ∧ Ext w w' := by
 obtain ⟨lv, ov, rfl, hl, ho⟩ := hu
 obtain ⟨A, c, rfl, hlc, hcm⟩ := hl.shape
 obtain ⟨A', c', rfl, hlc', hcm'⟩ := ho.shape
 clear hl ho
 unfold maxLen at hcm hcm'
 have hE1 : Ext w (w.alloc (.cells #[U8 x.kind, .int .i64 x.n, .string x.s, .slice A x.l.length c, .slice A' x.o.length c'] TVAL)) := (Keep.refl _ _).alloc _
 have hb1 := Blk.new w TVAL #[U8 x.kind, .int .i64 x.n, .string x.s, .slice A x.l.length c, .slice A' x.o.length c']
 have HV := hid (fun w' (h : Ext w w') => hv x.s hs w' (he.ext h))
 have HE1 := hid hE1
 have HB1 := hid hb1
 clear hv hs he hE1 hb1
 obtain ⟨pb, hpb⟩ : ∃ pb, plainB x = pb := ⟨_, rfl⟩
 rw [hpb]
 unfold plainB at hpb
 have hll := len_isEmpty x.l
 have hlo := len_isEmpty x.o
 generalize x.l.isEmpty = bl at *
 generalize x.o.isEmpty = bo at *
 generalize x.l.length = nl at *
 generalize x.o.length = no at *
 generalize x.n = n at *
 generalize x.s = s at *
 generalize Lib.validD s.data.toList = vd at *
 generalize x.kind = k at *
 obtain ⟨bs, hbs⟩ : ∃ bs, s.toList.isEmpty = bs := ⟨_, rfl⟩
 obtain ⟨bn, hbn⟩ : ∃ bn, (n == 0) = bn := ⟨_, rfl⟩
 rw [hbs] at hpb
 rw [hbn] at hpb
 have HPB := hid hpb
 clear hpb
 obtain ⟨q0, q1, q2, q3, q4⟩ := blk5 HB1.out
 go_enter Tryz.func125, Tryz.ntmps125
 go_wp2_with fail
 generalize w.alloc (.cells #[U8 k, .int .i64 n, .string s, .slice A nl c, .slice A' no c'] TVAL) = w1 at *
 refine wp_region_grow (specOf []) (fun w' => Ext w1 w') stable_nil (stableC_ext _) (by kernel_rfl) (by kernel_rfl) (Keep.drew (Keep.refl _ _)) ?_
 iterate 18
  (try simp only [Act.put, sqa, sqb, sqc])
  refine grow_run rfl rfl rfl ?_
  apply Exists.intro
  refine ⟨fun w' hC hK => ?_, ?_⟩
  ·have q0 := sqw hC q0
   have q1 := sqw hC q1
   have q2 := sqw hC q2
   have q3 := sqw hC q3
   have q4 := sqw hC q4
   go_simp
   rfl
 refine grow_nil fun w2 hC _ => ?_
 have hC : Ext w1 w2 := hC
 have HE2 := hid (HE1.out.ext hC)
 replace q0 := sqw hC q0
 replace q1 := sqw hC q1
 replace q2 := sqw hC q2
 replace q3 := sqw hC q3
 replace q4 := sqw hC q4
 clear hC hll hlo hbs hbn
 (try simp only [Act.put, sqa, sqb, sqc])
 have hkk : k = 0 ∨ k = 1 ∨ k = 2 ∨ k = 3 ∨ k = 4 ∨ k = 5 ∨ 5 < k.toNat := by
  have h0 : ∀ j : UInt8, k.toNat = j.toNat → k = j := fun j h => UInt8.toNat_inj.1 h
  rcases Nat.lt_or_ge 5 k.toNat with h | h
  ·exact .inr (.inr (.inr (.inr (.inr (.inr h)))))
  ·rcases (show k.toNat = 0 ∨ k.toNat = 1 ∨ k.toNat = 2 ∨ k.toNat = 3 ∨ k.toNat = 4 ∨ k.toNat = 5 by omega) with h | h | h | h | h | h
   ·exact .inl (h0 0 h)
   ·exact .inr (.inl (h0 1 h))
   ·exact .inr (.inr (.inl (h0 2 h)))
   ·exact .inr (.inr (.inr (.inl (h0 3 h))))
   ·exact .inr (.inr (.inr (.inr (.inl (h0 4 h)))))
   ·exact .inr (.inr (.inr (.inr (.inr (.inl (h0 5 h))))))
 rcases hkk with rfl | rfl | rfl | rfl | rfl | rfl | hk
 ·skip
  cases bn with
  | false =>
   have HP2 := HPB.out
   simp at HP2
   go_wp2
   go_ret
   exact ⟨by first | rfl | (rw [HP2]; rfl) | simp [HP2], HE2.out⟩
  | true =>
   cases bs with
   | false =>
    have HP2 := HPB.out
    simp at HP2
    go_wp2
    go_ret
    exact ⟨by first | rfl | (rw [HP2]; rfl) | simp [HP2], HE2.out⟩
   | true =>
    cases bl with
    | false =>
     have HP2 := HPB.out
     simp at HP2
     go_wp2
     go_ret
     exact ⟨by first | rfl | (rw [HP2]; rfl) | simp [HP2], HE2.out⟩
    | true =>
     cases bo with
     | false =>
      have HP2 := HPB.out
      simp at HP2
      go_wp2
      go_ret
      exact ⟨by first | rfl | (rw [HP2]; rfl) | simp [HP2], HE2.out⟩
     | true =>
      have HP2 := HPB.out
      simp at HP2
      go_wp2
      go_ret
      exact ⟨by first | rfl | (rw [HP2]; rfl) | simp [HP2], HE2.out⟩
 ·obtain ⟨b1, hb1⟩ : ∃ b1, (n == 1) = b1 := ⟨_, rfl⟩
  rw [hb1] at HPB
  have HNB := hid hb1
  cases bn with
  | true =>
   clear hb1 HNB
   cases bs with
   | false =>
    have HP2 := HPB.out
    simp at HP2
    go_wp2
    go_ret
    exact ⟨by first | rfl | (rw [HP2]; rfl) | simp [HP2], HE2.out⟩
   | true =>
    cases bl with
    | false =>
     have HP2 := HPB.out
     simp at HP2
     go_wp2
     go_ret
     exact ⟨by first | rfl | (rw [HP2]; rfl) | simp [HP2], HE2.out⟩
    | true =>
     cases bo with
     | false =>
      have HP2 := HPB.out
      simp at HP2
      go_wp2
      go_ret
      exact ⟨by first | rfl | (rw [HP2]; rfl) | simp [HP2], HE2.out⟩
     | true =>
      have HP2 := HPB.out
      simp at HP2
      go_wp2
      go_ret
      exact ⟨by first | rfl | (rw [HP2]; rfl) | simp [HP2], HE2.out⟩
  | false =>
   cases b1 with
   | false =>
    have HP2 := HPB.out
    simp at HP2
    go_wp2
    go_ret
    exact ⟨by first | rfl | (rw [HP2]; rfl) | simp [HP2], HE2.out⟩
   | true =>
    cases bs with
    | false =>
     have HP2 := HPB.out
     simp at HP2
     go_wp2
     go_ret
     exact ⟨by first | rfl | (rw [HP2]; rfl) | simp [HP2], HE2.out⟩
    | true =>
     cases bl with
     | false =>
      have HP2 := HPB.out
      simp at HP2
      go_wp2
      go_ret
      exact ⟨by first | rfl | (rw [HP2]; rfl) | simp [HP2], HE2.out⟩
     | true =>
      cases bo with
      | false =>
       have HP2 := HPB.out
       simp at HP2
       go_wp2
       go_ret
       exact ⟨by first | rfl | (rw [HP2]; rfl) | simp [HP2], HE2.out⟩
      | true =>
       have HP2 := HPB.out
       simp at HP2
       go_wp2
       go_ret
       exact ⟨by first | rfl | (rw [HP2]; rfl) | simp [HP2], HE2.out⟩
 ·skip
  cases bs with
  | false =>
   have HP2 := HPB.out
   simp at HP2
   go_wp2
   go_ret
   exact ⟨by first | rfl | (rw [HP2]; rfl) | simp [HP2], HE2.out⟩
  | true =>
   cases bl with
   | false =>
    have HP2 := HPB.out
    simp at HP2
    go_wp2
    go_ret
    exact ⟨by first | rfl | (rw [HP2]; rfl) | simp [HP2], HE2.out⟩
   | true =>
    cases bo with
    | false =>
     have HP2 := HPB.out
     simp at HP2
     go_wp2
     go_ret
     exact ⟨by first | rfl | (rw [HP2]; rfl) | simp [HP2], HE2.out⟩
    | true =>
     have HP2 := HPB.out
     simp at HP2
     go_wp2
     go_ret
     exact ⟨by first | rfl | (rw [HP2]; rfl) | simp [HP2], HE2.out⟩
 ·skip
  cases bn with
  | false =>
   have HP2 := HPB.out
   simp at HP2
   go_wp2
   go_ret
   exact ⟨by first | rfl | (rw [HP2]; rfl) | simp [HP2], HE2.out⟩
  | true =>
   go_wp2_with fail
   refine (HV.out _ HE2.out).mono ?_
   rintro e w3 ⟨rfl, hE3⟩
   have HE3 := hid (HE2.out.ext hE3)
   clear hE3 q0 q1 q2 q3 q4
   cases vd with
   | false =>
    have HP2 := HPB.out
    simp at HP2
    go_wp2
    go_ret
    exact ⟨by first | rfl | (rw [HP2]; rfl) | simp [HP2], HE3.out⟩
   | true =>
    cases bl with
    | false =>
     have HP2 := HPB.out
     simp at HP2
     go_wp2
     go_ret
     exact ⟨by first | rfl | (rw [HP2]; rfl) | simp [HP2], HE3.out⟩
    | true =>
     cases bo with
     | false =>
      have HP2 := HPB.out
      simp at HP2
      go_wp2
      go_ret
      exact ⟨by first | rfl | (rw [HP2]; rfl) | simp [HP2], HE3.out⟩
     | true =>
      have HP2 := HPB.out
      simp at HP2
      go_wp2
      go_ret
      exact ⟨by first | rfl | (rw [HP2]; rfl) | simp [HP2], HE3.out⟩
 ·skip
  cases bn with
  | false =>
   have HP2 := HPB.out
   simp at HP2
   go_wp2
   go_ret
   exact ⟨by first | rfl | (rw [HP2]; rfl) | simp [HP2], HE2.out⟩
  | true =>
   cases bs with
   | false =>
    have HP2 := HPB.out
    simp at HP2
    go_wp2
    go_ret
    exact ⟨by first | rfl | (rw [HP2]; rfl) | simp [HP2], HE2.out⟩
   | true =>
    cases bo with
    | false =>
     have HP2 := HPB.out
     simp at HP2
     go_wp2
     go_ret
     exact ⟨by first | rfl | (rw [HP2]; rfl) | simp [HP2], HE2.out⟩
    | true =>
     have HP2 := HPB.out
     simp at HP2
     go_wp2
     go_ret
     exact ⟨by first | rfl | (rw [HP2]; rfl) | simp [HP2], HE2.out⟩
 ·skip
  cases bn with
  | false =>
   have HP2 := HPB.out
   simp at HP2
   go_wp2
   go_ret
   exact ⟨by first | rfl | (rw [HP2]; rfl) | simp [HP2], HE2.out⟩
  | true =>
   cases bs with
   | false =>
    have HP2 := HPB.out
    simp at HP2
    go_wp2
    go_ret
    exact ⟨by first | rfl | (rw [HP2]; rfl) | simp [HP2], HE2.out⟩
   | true =>
    cases bl with
    | false =>
     have HP2 := HPB.out
     simp at HP2
     go_wp2
     go_ret
     exact ⟨by first | rfl | (rw [HP2]; rfl) | simp [HP2], HE2.out⟩
    | true =>
     have HP2 := HPB.out
     simp at HP2
     go_wp2
     go_ret
     exact ⟨by first | rfl | (rw [HP2]; rfl) | simp [HP2], HE2.out⟩
 ·have hkX : ∀ j : Nat, j ≤ 5 → ((k.toNat : Int) == (j : Int)) = false := fun j hj => by simp; omega
  have h0 : ((k.toNat : Int) == 0) = false := hkX 0 (by omega)
  have h1 : ((k.toNat : Int) == 1) = false := hkX 1 (by omega)
  have h2 : ((k.toNat : Int) == 2) = false := hkX 2 (by omega)
  have h3 : ((k.toNat : Int) == 3) = false := hkX 3 (by omega)
  have h4 : ((k.toNat : Int) == 4) = false := hkX 4 (by omega)
  have h5 : ((k.toNat : Int) == 5) = false := hkX 5 (by omega)
  have hne : ∀ j : UInt8, j.toNat ≤ 5 → k ≠ j := fun j hj e => by subst e; omega
  have HP2 := hid (show false = pb from by
   have := HPB.out
   rwa [if_neg (hne 0 (by decide)), if_neg (hne 1 (by decide)), if_neg (hne 2 (by decide)), if_neg (hne 3 (by decide)), if_neg (hne 4 (by decide)), if_neg (hne 5 (by decide))] at this)
  clear hkX hne HPB
  go_wp2
  go_ret
  exact ⟨by rw [← HP2.out]; first | rfl | simp, HE2.out⟩
def risesB : List F → Bool
 | [] => true
 | a :: r => (match r with | [] => true | b :: _ => keyLt a.key b.key) && risesB r
theorem risesB_iff : ∀ (o : List F), risesB o = true ↔ ∀ i (h : i + 1 < o.length), keyLt o[i].key o[i + 1].key = true
 | [] => by simp [risesB]
 | [a] => by simp [risesB]
 | a :: b :: r => by
  have ih := risesB_iff (b :: r)
  rw [risesB, Bool.and_eq_true, ih]
  constructor
  ·rintro ⟨h1, h2⟩ i h
   cases i with
   | zero => exact h1
   | succ i => exact h2 i (by simpa using h)
  ·intro h
   exact ⟨h 0 (by simp), fun i hi => h (i + 1) (by simpa using hi)⟩
theorem le_cases (a b : ByteArray) : (keyLt b a = true ∧ Op.bytesLess a.toList b.toList = false ∧ (a.toList == b.toList) = false) ∨ (keyLt b a = false ∧ ((Op.bytesLess a.toList b.toList = true ∧ (a.toList == b.toList) = false) ∨ (a.toList = b.toList ∧ (a.toList == b.toList) = true))) := by
 cases h : keyLt b a with
 | true =>
  refine .inl ⟨rfl, ?_, ?_⟩
  ·cases hc : Op.bytesLess a.toList b.toList with
   | false => rfl
   | true => exact absurd (less_trans (show Op.bytesLess b.toList a.toList = true from h) hc) (by rw [less_irrefl]; simp)
  ·rw [beq_eq_false_iff_ne]
   intro e
   have h1 : Op.bytesLess b.toList a.toList = true := h
   rw [e, less_irrefl] at h1
   cases h1
 | false =>
  refine .inr ⟨rfl, ?_⟩
  by_cases e : a.toList = b.toList
  ·exact .inr ⟨e, by simpa using e⟩
  ·exact .inl ⟨less_total (show Op.bytesLess b.toList a.toList = false from h) (fun h => e h.symm), by simpa using e⟩
theorem rising_any (o : List F) (v : Value) (S : BS) (w : World) (h : Sl EField w S v o) :
  Calls Tryz.prog 126 #[v] w fun e w' => e = .returned (.bool (risesB o)) ∧ Ext w w' := by
 obtain ⟨A, c, rfl, hlc, hcm⟩ := h.shape
 unfold maxLen at hcm
 have HO := hid h
 generalize hn : o.length = n at *
 have HN := hid hn
 have HRB := hid (risesB_iff o)
 clear h hn
 go_enter Tryz.func126, Tryz.ntmps126
 go_wp2
 go_loopw [6, 3] (fun i _ wr => ∃ j : Nat, j ≤ n ∧ i = .int .i64 j ∧ (∀ i (h : i + 1 < o.length), i + 1 < j → keyLt o[i].key o[i + 1].key = true) ∧ Ext w wr) (fun i _ _ => n - (intOf i).toNat)
 case atStart => exact ⟨0, by omega, rfl, fun i _ h => by omega, Keep.refl _ _⟩
 case round =>
  obtain ⟨j, hj, rfl, hfl, hEj⟩ := hrel
  have HF := hid hfl
  have HEJ := hid hEj
  clear hfl
  by_cases hlt : j < n
  ·have hjm : j < o.length := by rw [HN.out]; exact hlt
   by_cases hj0 : 0 < j
   ·obtain ⟨i, hji⟩ : ∃ i, j = i + 1 := ⟨j - 1, by omega⟩
    obtain ⟨b1, o1, cs, rfl, _, _, hrd, hcell⟩ := (HO.out.ext EField.ok hEj).at_ EField.ok hjm
    obtain ⟨b2, o2, cs2, e2, _, _, hrd2, hcell2⟩ := (HO.out.ext EField.ok hEj).at_ EField.ok (k := i) (by omega)
    obtain ⟨rfl, rfl⟩ : b1 = b2 ∧ o1 = o2 := by simpa using e2
    have hnx : keyLt (o[i]'(by omega)).key o[j].key = true → ∀ k (h : k + 1 < o.length), k + 1 < j + 1 → keyLt o[k].key o[k + 1].key = true := fun hk k h hk2 => by
     subst hji
     rcases Nat.lt_or_ge k i with h1 | h1
     ·exact HF.out k h (by omega)
     ·obtain rfl : k = i := by omega
      exact hk
    have hstop : keyLt (o[i]'(by omega)).key o[j].key = false → risesB o = false := fun hk => by
     subst hji
     cases hr : risesB o with
     | false => rfl
     | true => have := HRB.out.1 hr i (by omega); rw [hk] at this; cases this
    generalize o[j] = y at *
    generalize o[i]'(by omega) = g at *
    obtain ⟨_, _, rfl, _, _, _⟩ := EField_cells hrd
    obtain ⟨_, _, rfl, _, _, _⟩ := EField_cells hrd2
    have ck := hcell 0 _ rfl
    have cp := hcell2 0 _ rfl
    have hz : EField.size = 6 := rfl
    simp only [hz, Nat.add_zero] at ck cp
    have hwj : IntKind.i64.wrap ((j : Int) - 1) = (i : Int) := by rw [IntKind.wrap_i64]; omega
    have hio : (i : Int) < n := by omega
    have hi0 : (0 : Int) ≤ i := by omega
    have hjX : (0 : Int) < (j : Int) := by omega
    clear hji
    have HNX := hid hnx
    have HST := hid hstop
    clear hcell hcell2 hrd hrd2 e2 hz hnx hstop HF
    rcases le_cases y.key g.key with ⟨hk, hb1, hb2⟩ | ⟨hk, ⟨hb1, hb2⟩ | ⟨hb0, hb2⟩⟩
    ·have HG := hid (HNX.out hk)
     clear hk HNX HST
     go_wp2_with fail
     refine wp_region_grow (specOf []) (fun w' => Ext wr w') stable_nil (stableC_ext _) (by kernel_rfl) (by kernel_rfl) (Keep.drew (Keep.refl _ _)) ?_
     iterate 3
      (try simp only [Act.put, sqa, sqb, sqc])
      refine grow_run rfl rfl rfl ?_
      apply Exists.intro
      refine ⟨fun w' hC hK => ?_, ?_⟩
      ·go_simp
       rfl
     iterate 13
      (try simp only [Act.put, sqa, sqb, sqc])
      refine grow_run rfl rfl rfl ?_
      apply Exists.intro
      refine ⟨fun w' hC hK => ?_, ?_⟩
      ·have ck := sqw hC ck
       have cp := sqw hC cp
       go_simp
       rfl
     refine grow_nil fun w5 hC _ => ?_
     have HE5 := hid (HEJ.out.ext (show Ext wr w5 from hC))
     clear hC ck cp
     go_wp2
     go_roundw
     case rel => exact ⟨j + 1, by omega, by go_num, HG.out, HE5.out⟩
     case measure => simp [intOf]; omega
    ·have HG := hid (HST.out hk)
     clear hk HNX HST
     go_wp2_with fail
     refine wp_region_grow (specOf []) (fun w' => Ext wr w') stable_nil (stableC_ext _) (by kernel_rfl) (by kernel_rfl) (Keep.drew (Keep.refl _ _)) ?_
     iterate 3
      (try simp only [Act.put, sqa, sqb, sqc])
      refine grow_run rfl rfl rfl ?_
      apply Exists.intro
      refine ⟨fun w' hC hK => ?_, ?_⟩
      ·go_simp
       rfl
     iterate 13
      (try simp only [Act.put, sqa, sqb, sqc])
      refine grow_run rfl rfl rfl ?_
      apply Exists.intro
      refine ⟨fun w' hC hK => ?_, ?_⟩
      ·have ck := sqw hC ck
       have cp := sqw hC cp
       go_simp
       rfl
     refine grow_nil fun w5 hC _ => ?_
     have HE5 := hid (HEJ.out.ext (show Ext wr w5 from hC))
     clear hC ck cp
     go_wp2
     go_ret
     exact ⟨by rw [HG.out]; first | rfl | simp, HE5.out⟩
    ·have HG := hid (HST.out hk)
     clear hk HNX HST
     go_wp2_with fail
     refine wp_region_grow (specOf []) (fun w' => Ext wr w') stable_nil (stableC_ext _) (by kernel_rfl) (by kernel_rfl) (Keep.drew (Keep.refl _ _)) ?_
     iterate 3
      (try simp only [Act.put, sqa, sqb, sqc])
      refine grow_run rfl rfl rfl ?_
      apply Exists.intro
      refine ⟨fun w' hC hK => ?_, ?_⟩
      ·go_simp
       rfl
     iterate 13
      (try simp only [Act.put, sqa, sqb, sqc])
      refine grow_run rfl rfl rfl ?_
      apply Exists.intro
      refine ⟨fun w' hC hK => ?_, ?_⟩
      ·have ck := sqw hC ck
       have cp := sqw hC cp
       go_simp
       rfl
     refine grow_nil fun w5 hC _ => ?_
     have HE5 := hid (HEJ.out.ext (show Ext wr w5 from hC))
     clear hC ck cp
     go_wp2
     go_ret
     exact ⟨by rw [HG.out]; first | rfl | simp, HE5.out⟩
   ·obtain rfl : j = 0 := by omega
    clear hj0
    go_wp2_with fail
    refine wp_region_grow (specOf []) (fun w' => Ext wr w') stable_nil (stableC_ext _) (by kernel_rfl) (by kernel_rfl) (Keep.drew (Keep.refl _ _)) ?_
    iterate 3
     (try simp only [Act.put, sqa, sqb, sqc])
     refine grow_run rfl rfl rfl ?_
     apply Exists.intro
     refine ⟨fun w' hC hK => ?_, ?_⟩
     ·go_simp
      rfl
    iterate 12
     (try simp only [Act.put, sqa, sqb, sqc])
     with_reducible refine grow_skip ?_ ?_ ?_
     ·rfl
     ·rfl
    iterate 1
     (try simp only [Act.put, sqa, sqb, sqc])
     refine grow_run rfl rfl rfl ?_
     apply Exists.intro
     refine ⟨fun w' hC hK => ?_, ?_⟩
     ·go_simp
      rfl
    refine grow_nil fun w5 hC _ => ?_
    have HE5 := hid (HEJ.out.ext (show Ext wr w5 from hC))
    clear hC
    go_wp2
    go_roundw
    case rel => exact ⟨1, by omega, by go_num, fun k h hk => by omega, HE5.out⟩
    case measure => simp [intOf]; omega
  ·obtain rfl : j = n := by omega
   have HR := hid (show risesB o = true from HRB.out.2 fun i h => HF.out i (by have := HN.out; omega) (by have := HN.out; omega))
   clear HF
   go_wp2
   go_ret
   exact ⟨by rw [HR.out]; rfl, HEJ.out⟩
mutual
def V.snd : V → Bool
 | .mk k n s l o => plainB (.mk k n s l o) && risesB o && V.snds l && F.snds o
def V.snds : List V → Bool
 | [] => true
 | v :: vs => v.snd && V.snds vs
def F.snd : F → Bool
 | .mk k v => Lib.validD k.data.toList && v.snd
def F.snds : List F → Bool
 | [] => true
 | f :: fs => f.snd && F.snds fs
end
theorem V.snd_eq (v : V) : v.snd = (plainB v && risesB v.o && V.snds v.l && F.snds v.o) := by cases v; rw [V.snd]; rfl
theorem F.snd_eq (f : F) : f.snd = (Lib.validD f.key.data.toList && f.v.snd) := by cases f; rw [F.snd]; rfl
theorem V.snds_all : ∀ l : List V, V.snds l = l.all V.snd
 | [] => by simp [V.snds]
 | v :: vs => by rw [V.snds, V.snds_all vs]; rfl
theorem F.snds_all : ∀ l : List F, F.snds l = l.all F.snd
 | [] => by simp [F.snds]
 | v :: vs => by rw [F.snds, F.snds_all vs]; rfl
def N64 (n : Int) : Prop := -9223372036854775808 ≤ n ∧ n ≤ 9223372036854775807
mutual
def Can : V → Prop
 | .mk k n s l o => ((k = 1 ∨ k = 2) → N64 n) ∧ (¬ (k = 1 ∨ k = 2) → n = 0) ∧ (k = 3 → s.size < 4294967296) ∧ (k ≠ 3 → s = ⟨#[]⟩) ∧ (k = 4 → l.length < 4294967296) ∧ (k ≠ 4 → l = []) ∧ (k = 5 → o.length < 4294967296) ∧ (k ≠ 5 → o = []) ∧ Cans l ∧ CanFs o
def Cans : List V → Prop
 | [] => True
 | v :: vs => Can v ∧ Cans vs
def CanFs : List F → Prop
 | [] => True
 | .mk k v :: fs => k.size < 4294967296 ∧ Can v ∧ CanFs fs
end
end Go.Proofs.YtihaliffcobacaaGreatDoor
