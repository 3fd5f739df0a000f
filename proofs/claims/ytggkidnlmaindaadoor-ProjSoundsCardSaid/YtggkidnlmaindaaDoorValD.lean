/- Values as data in memory: a value is five cells, two of which are slices of values and of fields. No program. -/
import Derived.Test.YtggkidnlmaindaaDoorOwn
set_option linter.unusedSimpArgs false
set_option linter.unusedVariables false
namespace Go.Proofs.YtggkidnlmaindaaDoor
open Go.RowKit

mutual
inductive V where
  | mk (kind : UInt8) (n : Int) (s : ByteArray) (l : List V) (o : List F)
inductive F where
  | mk (key : ByteArray) (v : V)
end
def V.kind : V → UInt8 | .mk k _ _ _ _ => k
def V.n : V → Int | .mk _ n _ _ _ => n
def V.s : V → ByteArray | .mk _ _ s _ _ => s
def V.l : V → List V | .mk _ _ _ l _ => l
def V.o : V → List F | .mk _ _ _ _ o => o
def F.key : F → ByteArray | .mk k _ => k
def F.v : F → V | .mk _ v => v

mutual
def rdV (w : World) (S : BS) : V → List Value → Prop
  | .mk k n s l o, cs => ∃ lv ov ls os, cs = [U8 k, .int .i64 n, .string s, lv, ov] ∧ (RowS w S 5 lv l.length ls ∧ rdVs w S l ls) ∧ RowS w S 6 ov o.length os ∧ rdFs w S o os
def rdVs (w : World) (S : BS) : List V → List Value → Prop
  | [], cs => cs = []
  | v :: vs, cs => ∃ c0 c1, cs = c0 ++ c1 ∧ rdV w S v c0 ∧ rdVs w S vs c1
def rdF (w : World) (S : BS) : F → List Value → Prop
  | .mk k v, cs => ∃ c0, cs = .string k :: c0 ∧ rdV w S v c0
def rdFs (w : World) (S : BS) : List F → List Value → Prop
  | [], cs => cs = []
  | f :: fs, cs => ∃ c0 c1, cs = c0 ++ c1 ∧ rdF w S f c0 ∧ rdFs w S fs c1
end
def EVal : El V := { size := 5, rd := fun w S cs v => rdV w S v cs }
def EField : El F := { size := 6, rd := fun w S cs f => rdF w S f cs }

theorem rdVs_cells {w : World} {S : BS} : ∀ (l : List V) (cs : List Value), rdVs w S l cs ↔ Cells EVal w S cs l
  | [], cs => by rw [rdVs, Cells]
  | v :: vs, cs => by
    rw [rdVs, Cells]
    constructor
    · rintro ⟨c0, c1, h1, h2, h3⟩; exact ⟨c0, c1, h1, h2, (rdVs_cells vs c1).1 h3⟩
    · rintro ⟨c0, c1, h1, h2, h3⟩; exact ⟨c0, c1, h1, h2, (rdVs_cells vs c1).2 h3⟩
theorem rdFs_cells {w : World} {S : BS} : ∀ (l : List F) (cs : List Value), rdFs w S l cs ↔ Cells EField w S cs l
  | [], cs => by rw [rdFs, Cells]
  | v :: vs, cs => by
    rw [rdFs, Cells]
    constructor
    · rintro ⟨c0, c1, h1, h2, h3⟩; exact ⟨c0, c1, h1, h2, (rdFs_cells vs c1).1 h3⟩
    · rintro ⟨c0, c1, h1, h2, h3⟩; exact ⟨c0, c1, h1, h2, (rdFs_cells vs c1).2 h3⟩
theorem rdV_iff {w : World} {S : BS} {v : V} {cs : List Value} : rdV w S v cs ↔ ∃ lv ov, cs = [U8 v.kind, .int .i64 v.n, .string v.s, lv, ov] ∧ Sl EVal w S lv v.l ∧ Sl EField w S ov v.o := by
  cases v with
  | mk k n s l o =>
    rw [rdV]
    constructor
    · rintro ⟨lv, ov, ls, os, h1, ⟨h2, h3⟩, h4, h5⟩; exact ⟨lv, ov, h1, ⟨ls, h2, (rdVs_cells _ _).1 h3⟩, ⟨os, h4, (rdFs_cells _ _).1 h5⟩⟩
    · rintro ⟨lv, ov, h1, ⟨ls, h2, h3⟩, ⟨os, h4, h5⟩⟩; exact ⟨lv, ov, ls, os, h1, ⟨h2, (rdVs_cells _ _).2 h3⟩, h4, (rdFs_cells _ _).2 h5⟩
theorem rdF_iff {w : World} {S : BS} {f : F} {cs : List Value} : rdF w S f cs ↔ ∃ c0, cs = .string f.key :: c0 ∧ rdV w S f.v c0 := by
  cases f with
  | mk k v => rw [rdF]; exact Iff.rfl

theorem rdV_len {w : World} {S : BS} {v : V} {cs : List Value} (h : rdV w S v cs) : cs.length = 5 := by
  obtain ⟨lv, ov, rfl, _⟩ := rdV_iff.1 h; rfl
theorem rdV_one {w : World} {S : BS} {v : V} {cs : List Value} (h : rdV w S v cs) : ∀ u ∈ cs, u.oneCell' = true := by
  obtain ⟨lv, ov, rfl, h1, h2⟩ := rdV_iff.1 h
  obtain ⟨A, c, rfl, _⟩ := h1.shape
  obtain ⟨A', c', rfl, _⟩ := h2.shape
  intro u hu
  simp at hu
  rcases hu with rfl | rfl | rfl | rfl | rfl <;> rfl

mutual
theorem rdV_keep {Fr : Nat → Prop} {w w' : World} {S : BS} (hk : Keep Fr w w') (hF : ∀ k, S k → ¬ Fr k) : ∀ (v : V) (cs : List Value), rdV w S v cs → rdV w' S v cs
  | .mk k n s l o, cs, h => by
    rw [rdV] at h ⊢
    obtain ⟨lv, ov, ls, os, h1, ⟨h2, h3⟩, h4, h5⟩ := h
    exact ⟨lv, ov, ls, os, h1, ⟨h2.keep hk hF, rdVs_keep hk hF l ls h3⟩, h4.keep hk hF, rdFs_keep hk hF o os h5⟩
theorem rdVs_keep {Fr : Nat → Prop} {w w' : World} {S : BS} (hk : Keep Fr w w') (hF : ∀ k, S k → ¬ Fr k) : ∀ (l : List V) (cs : List Value), rdVs w S l cs → rdVs w' S l cs
  | [], cs, h => by rw [rdVs] at h ⊢; exact h
  | v :: vs, cs, h => by
    rw [rdVs] at h ⊢
    obtain ⟨c0, c1, h1, h2, h3⟩ := h
    exact ⟨c0, c1, h1, rdV_keep hk hF v c0 h2, rdVs_keep hk hF vs c1 h3⟩
theorem rdF_keep {Fr : Nat → Prop} {w w' : World} {S : BS} (hk : Keep Fr w w') (hF : ∀ k, S k → ¬ Fr k) : ∀ (f : F) (cs : List Value), rdF w S f cs → rdF w' S f cs
  | .mk k v, cs, h => by
    rw [rdF] at h ⊢
    obtain ⟨c0, h1, h2⟩ := h
    exact ⟨c0, h1, rdV_keep hk hF v c0 h2⟩
theorem rdFs_keep {Fr : Nat → Prop} {w w' : World} {S : BS} (hk : Keep Fr w w') (hF : ∀ k, S k → ¬ Fr k) : ∀ (l : List F) (cs : List Value), rdFs w S l cs → rdFs w' S l cs
  | [], cs, h => by rw [rdFs] at h ⊢; exact h
  | f :: fs, cs, h => by
    rw [rdFs] at h ⊢
    obtain ⟨c0, c1, h1, h2, h3⟩ := h
    exact ⟨c0, c1, h1, rdF_keep hk hF f c0 h2, rdFs_keep hk hF fs c1 h3⟩
end
mutual
theorem rdV_more {w : World} {S S' : BS} (hS : ∀ k, k < w.heap.size → S k → S' k) : ∀ (v : V) (cs : List Value), rdV w S v cs → rdV w S' v cs
  | .mk k n s l o, cs, h => by
    rw [rdV] at h ⊢
    obtain ⟨lv, ov, ls, os, h1, ⟨h2, h3⟩, h4, h5⟩ := h
    exact ⟨lv, ov, ls, os, h1, ⟨h2.more hS, rdVs_more hS l ls h3⟩, h4.more hS, rdFs_more hS o os h5⟩
theorem rdVs_more {w : World} {S S' : BS} (hS : ∀ k, k < w.heap.size → S k → S' k) : ∀ (l : List V) (cs : List Value), rdVs w S l cs → rdVs w S' l cs
  | [], cs, h => by rw [rdVs] at h ⊢; exact h
  | v :: vs, cs, h => by
    rw [rdVs] at h ⊢
    obtain ⟨c0, c1, h1, h2, h3⟩ := h
    exact ⟨c0, c1, h1, rdV_more hS v c0 h2, rdVs_more hS vs c1 h3⟩
theorem rdF_more {w : World} {S S' : BS} (hS : ∀ k, k < w.heap.size → S k → S' k) : ∀ (f : F) (cs : List Value), rdF w S f cs → rdF w S' f cs
  | .mk k v, cs, h => by
    rw [rdF] at h ⊢
    obtain ⟨c0, h1, h2⟩ := h
    exact ⟨c0, h1, rdV_more hS v c0 h2⟩
theorem rdFs_more {w : World} {S S' : BS} (hS : ∀ k, k < w.heap.size → S k → S' k) : ∀ (l : List F) (cs : List Value), rdFs w S l cs → rdFs w S' l cs
  | [], cs, h => by rw [rdFs] at h ⊢; exact h
  | f :: fs, cs, h => by
    rw [rdFs] at h ⊢
    obtain ⟨c0, c1, h1, h2, h3⟩ := h
    exact ⟨c0, c1, h1, rdF_more hS f c0 h2, rdFs_more hS fs c1 h3⟩
end
theorem EVal.ok : EVal.Ok where
  pos := by decide
  len := fun h => rdV_len h
  one := fun h => rdV_one h
  keep := fun h hk hF => rdV_keep hk hF _ _ h
  more := fun h hS => rdV_more hS _ _ h
theorem EField.ok : EField.Ok where
  pos := by decide
  len := fun h => by obtain ⟨c0, rfl, h0⟩ := rdF_iff.1 h; rw [List.length_cons, rdV_len h0]; rfl
  one := fun h u hu => by
    obtain ⟨c0, rfl, h0⟩ := rdF_iff.1 h
    rcases List.mem_cons.1 hu with rfl | hu
    · rfl
    · exact rdV_one h0 u hu
  keep := fun h hk hF => rdF_keep hk hF _ _ h
  more := fun h hS => rdF_more hS _ _ h
/-- A value of the language, its data in S. -/
def VAt (w : World) (S : BS) (u : Value) (v : V) : Prop := ∃ lv ov, u = .agg #[U8 v.kind, .int .i64 v.n, .string v.s, lv, ov] ∧ Sl EVal w S lv v.l ∧ Sl EField w S ov v.o
end Go.Proofs.YtggkidnlmaindaaDoor
