/- Pieces of which values are built; values that are sound. No program. -/
import Derived.Test.YtggkidnlmaindaaDoorValA
set_option linter.unusedSimpArgs false
set_option linter.unusedVariables false
namespace Go.Proofs.YtggkidnlmaindaaDoor
open Go.RowKit

/-- A piece. -/
structure Tk where
  kind : UInt8
  n : Int
  s : ByteArray
  many : UInt8
def ETok : El Tk := { size := 4, rd := fun _ _ cs t => cs = [U8 t.kind, .int .i64 t.n, .string t.s, U8 t.many] }
theorem ETok.ok : ETok.Ok where
  pos := by decide
  len := fun h => by subst h; rfl
  one := fun h u hu => by
    subst h
    simp at hu
    rcases hu with rfl | rfl | rfl | rfl <;> rfl
  keep := fun h _ _ => h
  more := fun h _ => h
theorem ty_tok : TyInfo Tryd.prog 22 65 4 40 := by
  obtain ⟨i, h1, h2, h3, h4⟩ := info_parts (show (Tryd.prog.info? 65).map (fun i => (i.zero, i.size, i.bytes)) = some (some (.agg #[.int .u8 0, .int .i64 0, .string ⟨#[]⟩, .int .u8 0]), 4, 40) from by kernel_rfl)
  exact ⟨Tryd.underlying22, i, _, h1, h2, h3, h4, rfl⟩

/-- Keys: the order of their bytes. -/
abbrev keyLt (a b : ByteArray) : Bool := Op.bytesLess a.toList b.toList
/-- A text of bytes below 128, not long. -/
def Asc (s : ByteArray) : Prop := (∀ c ∈ s.data.toList, c.toNat < 128) ∧ s.size ≤ 300
/-- Keys rise. -/
def Rise : List F → Prop
  | [] => True
  | f :: fs => (∀ g ∈ fs, keyLt f.key g.key = true) ∧ Rise fs
/-- The parts of a value are as its kind asks. -/
def KindOk (k : UInt8) (n : Int) (s : ByteArray) (l : List V) (o : List F) : Prop :=
  (k = 0 ∧ n = 0 ∧ s = ⟨#[]⟩ ∧ l = [] ∧ o = []) ∨ (k = 1 ∧ (n = 0 ∨ n = 1) ∧ s = ⟨#[]⟩ ∧ l = [] ∧ o = []) ∨ (k = 2 ∧ s = ⟨#[]⟩ ∧ l = [] ∧ o = []) ∨ (k = 3 ∧ n = 0 ∧ Asc s ∧ l = [] ∧ o = []) ∨
    (k = 4 ∧ n = 0 ∧ s = ⟨#[]⟩ ∧ o = []) ∨ (k = 5 ∧ n = 0 ∧ s = ⟨#[]⟩ ∧ l = [])
mutual
/-- A value that is sound (its texts below 128). -/
def SV : V → Prop
  | .mk k n s l o => KindOk k n s l o ∧ SVs l ∧ SFs o ∧ Rise o
def SVs : List V → Prop
  | [] => True
  | v :: vs => SV v ∧ SVs vs
def SF : F → Prop
  | .mk k v => Asc k ∧ SV v
def SFs : List F → Prop
  | [] => True
  | f :: fs => SF f ∧ SFs fs
end
theorem SV_iff (v : V) : SV v ↔ KindOk v.kind v.n v.s v.l v.o ∧ SVs v.l ∧ SFs v.o ∧ Rise v.o := by cases v; rw [SV]; exact Iff.rfl
theorem SF_iff (f : F) : SF f ↔ Asc f.key ∧ SV f.v := by cases f; rw [SF]; exact Iff.rfl
theorem SVs_iff : ∀ (l : List V), SVs l ↔ ∀ x ∈ l, SV x
  | [] => by simp [SVs]
  | v :: vs => by rw [SVs, SVs_iff vs]; simp
theorem SFs_iff : ∀ (l : List F), SFs l ↔ ∀ x ∈ l, SF x
  | [] => by simp [SFs]
  | v :: vs => by rw [SFs, SFs_iff vs]; simp
theorem V.sizes_append : ∀ a b : List V, V.sizes (a ++ b) = V.sizes a + V.sizes b
  | [], b => by simp [V.sizes]
  | v :: vs, b => by rw [List.cons_append, V.sizes, V.sizes, V.sizes_append vs b]; omega
theorem F.sizes_append : ∀ a b : List F, F.sizes (a ++ b) = F.sizes a + F.sizes b
  | [], b => by simp [F.sizes]
  | v :: vs, b => by rw [List.cons_append, F.sizes, F.sizes, F.sizes_append vs b]; omega

/-! ### The order of keys -/
theorem less_irrefl : ∀ a : List UInt8, Op.bytesLess a a = false
  | [] => rfl
  | x :: a => by simp [Op.bytesLess, less_irrefl a]
theorem less_trans : ∀ {a b c : List UInt8}, Op.bytesLess a b = true → Op.bytesLess b c = true → Op.bytesLess a c = true
  | [], [], c, h, _ => by simp [Op.bytesLess] at h
  | [], _ :: _, [], _, h => by simp [Op.bytesLess] at h
  | [], _ :: _, _ :: _, _, _ => by simp [Op.bytesLess]
  | _ :: _, [], _, h, _ => by simp [Op.bytesLess] at h
  | _ :: _, _ :: _, [], _, h => by simp [Op.bytesLess] at h
  | x :: a, y :: b, z :: c, h1, h2 => by
    simp only [Op.bytesLess, Bool.or_eq_true, Bool.and_eq_true, decide_eq_true_eq, beq_iff_eq] at h1 h2 ⊢
    rcases h1 with h1 | ⟨rfl, h1⟩
    · rcases h2 with h2 | ⟨rfl, h2⟩
      · exact .inl (UInt8.lt_trans h1 h2)
      · exact .inl h1
    · rcases h2 with h2 | ⟨rfl, h2⟩
      · exact .inl h2
      · exact .inr ⟨rfl, less_trans h1 h2⟩
theorem less_total : ∀ {a b : List UInt8}, Op.bytesLess a b = false → a ≠ b → Op.bytesLess b a = true
  | [], [], _, h => absurd rfl h
  | [], _ :: _, h, _ => by simp [Op.bytesLess] at h
  | _ :: _, [], _, _ => by simp [Op.bytesLess]
  | x :: a, y :: b, h, hne => by
    simp only [Op.bytesLess, Bool.or_eq_false_iff, Bool.and_eq_false_iff, decide_eq_false_iff_not, beq_eq_false_iff_ne] at h
    simp only [Op.bytesLess, Bool.or_eq_true, Bool.and_eq_true, decide_eq_true_eq, beq_iff_eq]
    obtain ⟨h1, h2⟩ := h
    by_cases e : x = y
    · subst e
      rcases h2 with h2 | h2
      · exact absurd rfl h2
      · exact .inr ⟨rfl, less_total h2 fun e => hne (by rw [e])⟩
    · refine .inl ?_
      have h1 := UInt8.not_lt.1 h1
      rcases Nat.lt_or_ge y.toNat x.toNat with h | h
      · exact UInt8.lt_iff_toNat_lt.2 h
      · exact absurd (UInt8.le_antisymm (UInt8.le_iff_toNat_le.2 h) h1) e
end Go.Proofs.YtggkidnlmaindaaDoor
