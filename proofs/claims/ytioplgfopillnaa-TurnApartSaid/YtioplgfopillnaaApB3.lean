/- ValA, Toks, Conv, ConvS: laid together. -/
import Derived.Test.YtioplgfopillnaaRows
import Derived.Test.YtioplgfopillnaaApB2
import Derived.WalkKit
import Derived.WalkSpells
import Derived.Test.YtioplgfopillnaaApB1
import Derived.Laws.BytesArg
/- Values: their types in the program; sizes. -/
set_option linter.unusedSimpArgs false
set_option linter.unusedVariables false
namespace Go.Proofs.Ytioplgfopillnaa
open Go.RowKit
abbrev TVAL : Nat := 31
abbrev TFIELD : Nat := 63
abbrev ZVAL : Value := .agg #[.int .u8 0, .int .i64 0, .string ⟨#[]⟩, .slice none 0 0, .slice none 0 0]
theorem ty_val : TyInfo Try.prog 28 TVAL 5 80 := by
  obtain ⟨i, h1, h2, h3, h4⟩ := info_parts (show (Try.prog.info? TVAL).map (fun i => (i.zero, i.size, i.bytes)) = some (some ZVAL, 5, 80) from by kernel_rfl)
  exact ⟨Try.underlying28, i, _, h1, h2, h3, h4, rfl⟩
theorem ty_field : TyInfo Try.prog 29 TFIELD 6 96 := by
  obtain ⟨i, h1, h2, h3, h4⟩ := info_parts (show (Try.prog.info? TFIELD).map (fun i => (i.zero, i.size, i.bytes)) = some (some (.agg #[.string ⟨#[]⟩, .int .u8 0, .int .i64 0, .string ⟨#[]⟩, .slice none 0 0, .slice none 0 0]), 6, 96) from by kernel_rfl)
  exact ⟨Try.underlying29, i, _, h1, h2, h3, h4, rfl⟩

mutual
/-- How many pieces a value has. -/
def V.size : V → Nat
  | .mk _ _ _ l o => 1 + V.sizes l + F.sizes o
def V.sizes : List V → Nat
  | [] => 0
  | v :: vs => V.size v + V.sizes vs
def F.size : F → Nat
  | .mk _ v => V.size v
def F.sizes : List F → Nat
  | [] => 0
  | f :: fs => F.size f + F.sizes fs
end
theorem V.size_pos : ∀ v : V, 0 < v.size
  | .mk _ _ _ _ _ => by rw [V.size]; omega
theorem F.size_eq : ∀ f : F, f.size = f.v.size
  | .mk _ _ => by rw [F.size]; rfl
theorem V.size_eq : ∀ v : V, v.size = 1 + V.sizes v.l + F.sizes v.o
  | .mk _ _ _ _ _ => by rw [V.size]; rfl
theorem V.sizes_len : ∀ l : List V, l.length ≤ V.sizes l
  | [] => by simp
  | v :: vs => by have := V.size_pos v; have := V.sizes_len vs; rw [V.sizes, List.length_cons]; omega
theorem F.sizes_len : ∀ l : List F, l.length ≤ F.sizes l
  | [] => by simp
  | f :: fs => by have := V.size_pos f.v; have := F.sizes_len fs; rw [F.sizes, List.length_cons, F.size_eq]; omega
theorem V.sizes_mem : ∀ {l : List V} {x : V}, x ∈ l → x.size ≤ V.sizes l
  | v :: vs, x, h => by
    rw [V.sizes]
    rcases List.mem_cons.1 h with rfl | h
    · omega
    · have := V.sizes_mem h; omega
theorem F.sizes_mem : ∀ {l : List F} {x : F}, x ∈ l → x.v.size ≤ F.sizes l
  | f :: fs, x, h => by
    rw [F.sizes, F.size_eq]
    rcases List.mem_cons.1 h with rfl | h
    · omega
    · have := F.sizes_mem h; omega
theorem VAt.ext {w w' : World} {S : BS} {u : Value} {v : V} (h : VAt w S u v) (he : Ext w w') : VAt w' S u v := by
  obtain ⟨lv, ov, h1, h2, h3⟩ := h; exact ⟨lv, ov, h1, h2.ext EVal.ok he, h3.ext EField.ok he⟩
theorem VAt.more {w : World} {S S' : BS} {u : Value} {v : V} (h : VAt w S u v) (hS : ∀ k, k < w.heap.size → S k → S' k) : VAt w S' u v := by
  obtain ⟨lv, ov, h1, h2, h3⟩ := h; exact ⟨lv, ov, h1, h2.more EVal.ok hS, h3.more EField.ok hS⟩
theorem VAt.keep {Fr : Nat → Prop} {w w' : World} {S : BS} {u : Value} {v : V} (h : VAt w S u v) (hk : Keep Fr w w') (hF : ∀ k, S k → ¬ Fr k) : VAt w' S u v := by
  obtain ⟨lv, ov, h1, h2, h3⟩ := h; exact ⟨lv, ov, h1, h2.keep EVal.ok hk hF, h3.keep EField.ok hk hF⟩
theorem VAt.cut {w : World} {S : BS} {u : Value} {v : V} (h : VAt w S u v) : VAt w (fun k => S k ∧ k < w.heap.size) u v := h.more fun k h1 h2 => ⟨h2, h1⟩
theorem VAt.rd {w : World} {S : BS} {a b c d e : Value} {v : V} (h : VAt w S (.agg #[a, b, c, d, e]) v) : EVal.rd w S [a, b, c, d, e] v := by
  obtain ⟨lv, ov, h1, h2, h3⟩ := h
  simp only [Value.agg.injEq] at h1
  simp at h1
  obtain ⟨rfl, rfl, rfl, rfl, rfl⟩ := h1
  exact rdV_iff.2 ⟨_, _, rfl, h2, h3⟩
/-- Cells of a value in sight. -/
theorem EVal_cells {w : World} {S : BS} {cs : List Value} {v : V} (h : EVal.rd w S cs v) : ∃ A n c A' n' c', cs = [U8 v.kind, .int .i64 v.n, .string v.s, .slice A v.l.length c, .slice A' v.o.length c'] ∧ n = v.l.length ∧ n' = v.o.length ∧
    VAt w S (.agg #[U8 v.kind, .int .i64 v.n, .string v.s, .slice A v.l.length c, .slice A' v.o.length c']) v := by
  obtain ⟨lv, ov, rfl, h1, h2⟩ := rdV_iff.1 h
  obtain ⟨A, c, rfl, _⟩ := h1.shape
  obtain ⟨A', c', rfl, _⟩ := h2.shape
  exact ⟨A, _, c, A', _, c', rfl, rfl, rfl, ⟨_, _, rfl, h1, h2⟩⟩
theorem list_five {α : Type} (l : List α) (o : Nat) (a b c d e : α) (h : o + 5 ≤ l.length) : ((((l.set o a).set (o + 1) b).set (o + 2) c).set (o + 3) d).set (o + 4) e = l.take o ++ [a, b, c, d, e] ++ l.drop (o + 5) := by
  induction o generalizing l with
  | zero =>
    match l, h with
    | p :: q :: r :: s :: t :: m, _ => simp
  | succ o ih =>
    match l, h with
    | p :: m, h =>
      have := ih m (by simp at h; omega)
      simp [show o + 1 + 1 = (o + 1) + 1 from rfl, show o + 1 + 2 = (o + 2) + 1 from rfl, show o + 1 + 3 = (o + 3) + 1 from rfl, show o + 1 + 4 = (o + 4) + 1 from rfl, show o + 1 + 5 = (o + 5) + 1 from rfl] at this ⊢
      exact this
end Go.Proofs.Ytioplgfopillnaa

/- Pieces of which values are built; values that are sound. No program. -/
set_option linter.unusedSimpArgs false
set_option linter.unusedVariables false
namespace Go.Proofs.Ytioplgfopillnaa
open Go.RowKit

/-- A piece. -/
structure Tk where
  kind : UInt8
  n : Int
  s : ByteArray
  many : UInt8
def ETok : El Tk := { size := 4, rd := fun _ _ cs t => cs = [U8 t.kind, .int .i64 t.n, .string t.s, U8 t.many] }
theorem ETok.ok : ETok.Ok where
  pos := by decide
  len := fun h => by subst h; rfl
  one := fun h u hu => by
    subst h
    simp at hu
    rcases hu with rfl | rfl | rfl | rfl <;> rfl
  keep := fun h _ _ => h
  more := fun h _ => h
theorem ty_tok : TyInfo Try.prog 22 44 4 40 := by
  obtain ⟨i, h1, h2, h3, h4⟩ := info_parts (show (Try.prog.info? 44).map (fun i => (i.zero, i.size, i.bytes)) = some (some (.agg #[.int .u8 0, .int .i64 0, .string ⟨#[]⟩, .int .u8 0]), 4, 40) from by kernel_rfl)
  exact ⟨Try.underlying22, i, _, h1, h2, h3, h4, rfl⟩

/-- Keys: the order of their bytes. -/
abbrev keyLt (a b : ByteArray) : Bool := Op.bytesLess a.toList b.toList
/-- A text of bytes below 128, not long. -/
def Asc (s : ByteArray) : Prop := (∀ c ∈ s.data.toList, c.toNat < 128) ∧ s.size ≤ 300
/-- Keys rise. -/
def Rise : List F → Prop
  | [] => True
  | f :: fs => (∀ g ∈ fs, keyLt f.key g.key = true) ∧ Rise fs
/-- The parts of a value are as its kind asks. -/
def KindOk (k : UInt8) (n : Int) (s : ByteArray) (l : List V) (o : List F) : Prop :=
  (k = 0 ∧ n = 0 ∧ s = ⟨#[]⟩ ∧ l = [] ∧ o = []) ∨ (k = 1 ∧ (n = 0 ∨ n = 1) ∧ s = ⟨#[]⟩ ∧ l = [] ∧ o = []) ∨ (k = 2 ∧ s = ⟨#[]⟩ ∧ l = [] ∧ o = []) ∨ (k = 3 ∧ n = 0 ∧ Asc s ∧ l = [] ∧ o = []) ∨
    (k = 4 ∧ n = 0 ∧ s = ⟨#[]⟩ ∧ o = []) ∨ (k = 5 ∧ n = 0 ∧ s = ⟨#[]⟩ ∧ l = [])
mutual
/-- A value that is sound (its texts below 128). -/
def SV : V → Prop
  | .mk k n s l o => KindOk k n s l o ∧ SVs l ∧ SFs o ∧ Rise o
def SVs : List V → Prop
  | [] => True
  | v :: vs => SV v ∧ SVs vs
def SF : F → Prop
  | .mk k v => Asc k ∧ SV v
def SFs : List F → Prop
  | [] => True
  | f :: fs => SF f ∧ SFs fs
end
theorem SV_iff (v : V) : SV v ↔ KindOk v.kind v.n v.s v.l v.o ∧ SVs v.l ∧ SFs v.o ∧ Rise v.o := by cases v; rw [SV]; exact Iff.rfl
theorem SF_iff (f : F) : SF f ↔ Asc f.key ∧ SV f.v := by cases f; rw [SF]; exact Iff.rfl
theorem SVs_iff : ∀ (l : List V), SVs l ↔ ∀ x ∈ l, SV x
  | [] => by simp [SVs]
  | v :: vs => by rw [SVs, SVs_iff vs]; simp
theorem SFs_iff : ∀ (l : List F), SFs l ↔ ∀ x ∈ l, SF x
  | [] => by simp [SFs]
  | v :: vs => by rw [SFs, SFs_iff vs]; simp
theorem V.sizes_append : ∀ a b : List V, V.sizes (a ++ b) = V.sizes a + V.sizes b
  | [], b => by simp [V.sizes]
  | v :: vs, b => by rw [List.cons_append, V.sizes, V.sizes, V.sizes_append vs b]; omega
theorem F.sizes_append : ∀ a b : List F, F.sizes (a ++ b) = F.sizes a + F.sizes b
  | [], b => by simp [F.sizes]
  | v :: vs, b => by rw [List.cons_append, F.sizes, F.sizes, F.sizes_append vs b]; omega

/-! ### The order of keys -/
theorem less_irrefl : ∀ a : List UInt8, Op.bytesLess a a = false
  | [] => rfl
  | x :: a => by simp [Op.bytesLess, less_irrefl a]
theorem less_trans : ∀ {a b c : List UInt8}, Op.bytesLess a b = true → Op.bytesLess b c = true → Op.bytesLess a c = true
  | [], [], c, h, _ => by simp [Op.bytesLess] at h
  | [], _ :: _, [], _, h => by simp [Op.bytesLess] at h
  | [], _ :: _, _ :: _, _, _ => by simp [Op.bytesLess]
  | _ :: _, [], _, h, _ => by simp [Op.bytesLess] at h
  | _ :: _, _ :: _, [], _, h => by simp [Op.bytesLess] at h
  | x :: a, y :: b, z :: c, h1, h2 => by
    simp only [Op.bytesLess, Bool.or_eq_true, Bool.and_eq_true, decide_eq_true_eq, beq_iff_eq] at h1 h2 ⊢
    rcases h1 with h1 | ⟨rfl, h1⟩
    · rcases h2 with h2 | ⟨rfl, h2⟩
      · exact .inl (UInt8.lt_trans h1 h2)
      · exact .inl h1
    · rcases h2 with h2 | ⟨rfl, h2⟩
      · exact .inl h2
      · exact .inr ⟨rfl, less_trans h1 h2⟩
theorem less_total : ∀ {a b : List UInt8}, Op.bytesLess a b = false → a ≠ b → Op.bytesLess b a = true
  | [], [], _, h => absurd rfl h
  | [], _ :: _, h, _ => by simp [Op.bytesLess] at h
  | _ :: _, [], _, _ => by simp [Op.bytesLess]
  | x :: a, y :: b, h, hne => by
    simp only [Op.bytesLess, Bool.or_eq_false_iff, Bool.and_eq_false_iff, decide_eq_false_iff_not, beq_eq_false_iff_ne] at h
    simp only [Op.bytesLess, Bool.or_eq_true, Bool.and_eq_true, decide_eq_true_eq, beq_iff_eq]
    obtain ⟨h1, h2⟩ := h
    by_cases e : x = y
    · subst e
      rcases h2 with h2 | h2
      · exact absurd rfl h2
      · exact .inr ⟨rfl, less_total h2 fun e => hne (by rw [e])⟩
    · refine .inl ?_
      have h1 := UInt8.not_lt.1 h1
      rcases Nat.lt_or_ge y.toNat x.toNat with h | h
      · exact UInt8.lt_iff_toNat_lt.2 h
      · exact absurd (UInt8.le_antisymm (UInt8.le_iff_toNat_le.2 h) h1) e
end Go.Proofs.Ytioplgfopillnaa

/- Bytes as a text. -/
set_option linter.unusedSimpArgs false
set_option linter.unusedVariables false
namespace Go.Proofs.Ytioplgfopillnaa
open Go.RowKit

/-- A text of bytes. -/
def textOf (l : List UInt8) : ByteArray := ⟨l.toArray⟩

theorem nums_text (l : List UInt8) : strOfNums (l.map fun c => (c.toNat : Int)) = textOf l := by
  unfold strOfNums textOf
  rw [List.map_map]
  have : ∀ c ∈ l, ((fun n : Int => UInt8.ofNat n.toNat) ∘ fun c : UInt8 => (c.toNat : Int)) c = c := fun c _ => by simp
  rw [List.map_congr_left this, List.map_id']

/-- 'string(b)'. -/
theorem convert_bytes {w : World} {B : Nat} {v : Value} {l : List UInt8} (h : Bytes w B v l) : (convert 23 9 v).run Try.prog w = .ok (.string (textOf l)) w := by
  obtain ⟨A, c, rfl, h1, h2, h3⟩ := h.open_
  cases A with
  | none =>
    have : l = [] := by
      rcases Nat.eq_zero_or_pos l.length with h0 | h0
      · exact List.eq_nil_of_length_eq_zero h0
      · obtain ⟨b, off, e, _⟩ := h3 h0
        cases e
    subst this
    exact run_convert_bytes_nil w _ _ Try.underlying23 Try.underlying5 0 c _ Try.underlying9
  | some a =>
    rcases Nat.eq_zero_or_pos l.length with h0 | h0
    · have : l = [] := List.eq_nil_of_length_eq_zero h0
      subst this
      have hl : (loadCells a 0).run Try.prog w = .ok (([] : List Int).map (Value.int .u8)).toArray w := by
        have := run_loadCells_list (P := Try.prog) w a [] (fun j v hj => by simp at hj)
        simpa using this
      rw [List.length_nil, run_convert_bytes_string w _ _ _ _ 0 c Try.underlying23 Try.underlying5 Try.underlying9, run_bytesToString w _ 0 c [] hl]
      rfl
    · obtain ⟨b, off, e, hb, hc⟩ := h3 h0
      cases e
      rw [run_convert_bytes_arg w _ _ Try.underlying23 Try.underlying5 b off l.length c (l.map fun c => (c.toNat : Int)) (by simp) (fun i hi => by rw [hc i hi]; simp [List.getD, hi]) _ Try.underlying9, nums_text]
end Go.Proofs.Ytioplgfopillnaa

/- Bytes as a text: for slices by 'Sl'. -/
set_option linter.unusedSimpArgs false
set_option linter.unusedVariables false
namespace Go.Proofs.Ytioplgfopillnaa
open Go.RowKit

/-- 'string(b)'. -/
theorem convert_bytesS {w : World} {S : BS} {v : Value} {l : List UInt8} (h : BytesS w S v l) : (convert 23 9 v).run Try.prog w = .ok (.string (textOf l)) w := by
  obtain ⟨A, c, rfl, h1, h2⟩ := h.shape
  rcases Nat.eq_zero_or_pos l.length with h0 | h0
  · have : l = [] := List.eq_nil_of_length_eq_zero h0
    subst this
    cases A with
    | none => exact run_convert_bytes_nil w _ _ Try.underlying23 Try.underlying5 0 c _ Try.underlying9
    | some a =>
      have hl : (loadCells a 0).run Try.prog w = .ok (([] : List Int).map (Value.int .u8)).toArray w := by
        have := run_loadCells_list (P := Try.prog) w a [] (fun j v hj => by simp at hj)
        simpa using this
      rw [List.length_nil, run_convert_bytes_string w _ _ _ _ 0 c Try.underlying23 Try.underlying5 Try.underlying9, run_bytesToString w _ 0 c [] hl]
      rfl
  · obtain ⟨b, off, e, _, _, _⟩ := bytesS_at h h0
    subst e
    rw [run_convert_bytes_arg w _ _ Try.underlying23 Try.underlying5 b off l.length c (l.map fun c => (c.toNat : Int)) (by simp) (fun i hi => by
      obtain ⟨b', off', e', _, _, hc⟩ := bytesS_at h hi
      injection e' with e'; injection e' with e1 e2 _; subst e1 e2
      rw [hc]; simp [List.getD, hi, U8]) _ Try.underlying9, nums_text]
end Go.Proofs.Ytioplgfopillnaa
