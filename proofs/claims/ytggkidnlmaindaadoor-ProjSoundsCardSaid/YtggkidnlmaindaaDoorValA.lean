/- Values: their types in the program; sizes. -/
import Derived.Test.YtggkidnlmaindaaDoorRows
import Derived.Test.YtggkidnlmaindaaDoorValD
import Derived.Test.YtggkidnlmaindaaDoorMix
import Derived.WalkKit
import Derived.WalkSpells
set_option linter.unusedSimpArgs false
set_option linter.unusedVariables false
namespace Go.Proofs.YtggkidnlmaindaaDoor
open Go.RowKit
abbrev TVAL : Nat := 35
abbrev TFIELD : Nat := 67
abbrev ZVAL : Value := .agg #[.int .u8 0, .int .i64 0, .string ⟨#[]⟩, .slice none 0 0, .slice none 0 0]
theorem ty_val : TyInfo Tryd.prog 32 TVAL 5 80 := by
  obtain ⟨i, h1, h2, h3, h4⟩ := info_parts (show (Tryd.prog.info? TVAL).map (fun i => (i.zero, i.size, i.bytes)) = some (some ZVAL, 5, 80) from by kernel_rfl)
  exact ⟨Tryd.underlying32, i, _, h1, h2, h3, h4, rfl⟩
theorem ty_field : TyInfo Tryd.prog 33 TFIELD 6 96 := by
  obtain ⟨i, h1, h2, h3, h4⟩ := info_parts (show (Tryd.prog.info? TFIELD).map (fun i => (i.zero, i.size, i.bytes)) = some (some (.agg #[.string ⟨#[]⟩, .int .u8 0, .int .i64 0, .string ⟨#[]⟩, .slice none 0 0, .slice none 0 0]), 6, 96) from by kernel_rfl)
  exact ⟨Tryd.underlying33, i, _, h1, h2, h3, h4, rfl⟩

mutual
/-- How many pieces a value has. -/
def V.size : V → Nat
  | .mk _ _ _ l o => 1 + V.sizes l + F.sizes o
def V.sizes : List V → Nat
  | [] => 0
  | v :: vs => V.size v + V.sizes vs
def F.size : F → Nat
  | .mk _ v => V.size v
def F.sizes : List F → Nat
  | [] => 0
  | f :: fs => F.size f + F.sizes fs
end
theorem V.size_pos : ∀ v : V, 0 < v.size
  | .mk _ _ _ _ _ => by rw [V.size]; omega
theorem F.size_eq : ∀ f : F, f.size = f.v.size
  | .mk _ _ => by rw [F.size]; rfl
theorem V.size_eq : ∀ v : V, v.size = 1 + V.sizes v.l + F.sizes v.o
  | .mk _ _ _ _ _ => by rw [V.size]; rfl
theorem V.sizes_len : ∀ l : List V, l.length ≤ V.sizes l
  | [] => by simp
  | v :: vs => by have := V.size_pos v; have := V.sizes_len vs; rw [V.sizes, List.length_cons]; omega
theorem F.sizes_len : ∀ l : List F, l.length ≤ F.sizes l
  | [] => by simp
  | f :: fs => by have := V.size_pos f.v; have := F.sizes_len fs; rw [F.sizes, List.length_cons, F.size_eq]; omega
theorem V.sizes_mem : ∀ {l : List V} {x : V}, x ∈ l → x.size ≤ V.sizes l
  | v :: vs, x, h => by
    rw [V.sizes]
    rcases List.mem_cons.1 h with rfl | h
    · omega
    · have := V.sizes_mem h; omega
theorem F.sizes_mem : ∀ {l : List F} {x : F}, x ∈ l → x.v.size ≤ F.sizes l
  | f :: fs, x, h => by
    rw [F.sizes, F.size_eq]
    rcases List.mem_cons.1 h with rfl | h
    · omega
    · have := F.sizes_mem h; omega
theorem VAt.ext {w w' : World} {S : BS} {u : Value} {v : V} (h : VAt w S u v) (he : Ext w w') : VAt w' S u v := by
  obtain ⟨lv, ov, h1, h2, h3⟩ := h; exact ⟨lv, ov, h1, h2.ext EVal.ok he, h3.ext EField.ok he⟩
theorem VAt.more {w : World} {S S' : BS} {u : Value} {v : V} (h : VAt w S u v) (hS : ∀ k, k < w.heap.size → S k → S' k) : VAt w S' u v := by
  obtain ⟨lv, ov, h1, h2, h3⟩ := h; exact ⟨lv, ov, h1, h2.more EVal.ok hS, h3.more EField.ok hS⟩
theorem VAt.keep {Fr : Nat → Prop} {w w' : World} {S : BS} {u : Value} {v : V} (h : VAt w S u v) (hk : Keep Fr w w') (hF : ∀ k, S k → ¬ Fr k) : VAt w' S u v := by
  obtain ⟨lv, ov, h1, h2, h3⟩ := h; exact ⟨lv, ov, h1, h2.keep EVal.ok hk hF, h3.keep EField.ok hk hF⟩
theorem VAt.cut {w : World} {S : BS} {u : Value} {v : V} (h : VAt w S u v) : VAt w (fun k => S k ∧ k < w.heap.size) u v := h.more fun k h1 h2 => ⟨h2, h1⟩
theorem VAt.rd {w : World} {S : BS} {a b c d e : Value} {v : V} (h : VAt w S (.agg #[a, b, c, d, e]) v) : EVal.rd w S [a, b, c, d, e] v := by
  obtain ⟨lv, ov, h1, h2, h3⟩ := h
  simp only [Value.agg.injEq] at h1
  simp at h1
  obtain ⟨rfl, rfl, rfl, rfl, rfl⟩ := h1
  exact rdV_iff.2 ⟨_, _, rfl, h2, h3⟩
/-- Cells of a value in sight. -/
theorem EVal_cells {w : World} {S : BS} {cs : List Value} {v : V} (h : EVal.rd w S cs v) : ∃ A n c A' n' c', cs = [U8 v.kind, .int .i64 v.n, .string v.s, .slice A v.l.length c, .slice A' v.o.length c'] ∧ n = v.l.length ∧ n' = v.o.length ∧
    VAt w S (.agg #[U8 v.kind, .int .i64 v.n, .string v.s, .slice A v.l.length c, .slice A' v.o.length c']) v := by
  obtain ⟨lv, ov, rfl, h1, h2⟩ := rdV_iff.1 h
  obtain ⟨A, c, rfl, _⟩ := h1.shape
  obtain ⟨A', c', rfl, _⟩ := h2.shape
  exact ⟨A, _, c, A', _, c', rfl, rfl, rfl, ⟨_, _, rfl, h1, h2⟩⟩
theorem list_five {α : Type} (l : List α) (o : Nat) (a b c d e : α) (h : o + 5 ≤ l.length) : ((((l.set o a).set (o + 1) b).set (o + 2) c).set (o + 3) d).set (o + 4) e = l.take o ++ [a, b, c, d, e] ++ l.drop (o + 5) := by
  induction o generalizing l with
  | zero =>
    match l, h with
    | p :: q :: r :: s :: t :: m, _ => simp
  | succ o ih =>
    match l, h with
    | p :: m, h =>
      have := ih m (by simp at h; omega)
      simp [show o + 1 + 1 = (o + 1) + 1 from rfl, show o + 1 + 2 = (o + 2) + 1 from rfl, show o + 1 + 3 = (o + 3) + 1 from rfl, show o + 1 + 4 = (o + 4) + 1 from rfl, show o + 1 + 5 = (o + 5) + 1 from rfl] at this ⊢
      exact this
end Go.Proofs.YtggkidnlmaindaaDoor
