/- MeetC, MeetD: laid together. -/
import Derived.Test.YtggkidnlmaindaaDoorPxB25
import Derived.Test.YtggkidnlmaindaaDoorPxB30
set_option linter.unusedSimpArgs false
set_option linter.unusedVariables false
set_option maxHeartbeats 25600000
set_option maxRecDepth 20000
namespace Go.Proofs.YtggkidnlmaindaaDoor
open Go.RowKit
def AscB (s : ByteArray) : Prop := ∀ b ∈ bys s, b.toNat < 128
theorem AscB.asc {s : ByteArray} (h : AscB s) (hz : s.size ≤ 2000) : Asc9 s := ⟨fun j hj => h _ (by show s.data[j] ∈ s.data.toList; exact Array.getElem_mem_toList hj), hz⟩
theorem Asc9.b {s : ByteArray} (h : Asc9 s) : AscB s := fun b hb => by
 obtain ⟨j, hj, rfl⟩ := List.getElem_of_mem hb
 exact h.1 j hj
def CanX (x : V) (c : Cp) : Prop :=
 (x.kind = 2 ∧ c.kind = 1) ∨ (x.kind = 3 ∧ Asc9 x.s ∧ TextC x.s.size c ∧ AscB c.s ∧ c.s.size ≤ 100) ∨ (x.kind = 4 ∧ checkL x.l.length c.kind c.i c.j = 0) ∨ (x.kind = 5 ∧ Rise x.o ∧ (c.kind = 2 ∨ (c.kind = 3 ∧ fieldIs x.o c.key = true)))
theorem CanX.k2 {x : V} {c : Cp} (hk : x.kind = 2) (h : CanX x c) : c.kind = 1 := by
 rcases h with ⟨_, h⟩ | ⟨h, _⟩ | ⟨h, _⟩ | ⟨h, _⟩
 ·exact h
 all_goals (rw [hk] at h; exact absurd h (by decide))
theorem CanX.k3 {x : V} {c : Cp} (hk : x.kind = 3) (h : CanX x c) : Asc9 x.s ∧ TextC x.s.size c ∧ AscB c.s ∧ c.s.size ≤ 100 := by
 rcases h with ⟨h, _⟩ | ⟨_, h⟩ | ⟨h, _⟩ | ⟨h, _⟩
 case inr.inl => exact h
 all_goals (rw [hk] at h; exact absurd h (by decide))
theorem CanX.k4 {x : V} {c : Cp} (hk : x.kind = 4) (h : CanX x c) : checkL x.l.length c.kind c.i c.j = 0 := by
 rcases h with ⟨h, _⟩ | ⟨h, _⟩ | ⟨_, h⟩ | ⟨h, _⟩
 case inr.inr.inl => exact h
 all_goals (rw [hk] at h; exact absurd h (by decide))
theorem CanX.k5 {x : V} {c : Cp} (hk : x.kind = 5) (h : CanX x c) : Rise x.o ∧ (c.kind = 2 ∨ (c.kind = 3 ∧ fieldIs x.o c.key = true)) := by
 rcases h with ⟨h, _⟩ | ⟨h, _⟩ | ⟨h, _⟩ | ⟨_, h⟩
 case inr.inr.inr => exact h
 all_goals (rw [hk] at h; exact absurd h (by decide))
def doX (x : V) (c : Cp) : V :=
 if c.kind = 1 then .mk x.kind (IntKind.i64.wrap (x.n + c.n)) x.s x.l x.o
 else if c.kind = 2 ∨ c.kind = 3 then withO x (fldR (.mk c.key c.v) (c.kind.toNat == 3) x.o)
 else if c.kind = 8 ∨ c.kind = 9 then .mk x.kind x.n (textD x.s c) x.l x.o
 else .mk x.kind x.n x.s ((doL x.l ⟨c.kind, c.i, c.j, c.v⟩).getD x.l) x.o
def LDo (x : V) (q : List St) (c : Cp) (z : V) : Prop := ∃ y, getV x q = some y ∧ CanX y c ∧ putV x q (doX y c) = some z
def LDoL : V → List (List St × Cp) → V → Prop
 | x, [], z => z = x
 | x, (q, c) :: r, z => ∃ y, LDo x q c y ∧ LDoL y r z
theorem LDo.here {x : V} {c : Cp} (h : CanX x c) : LDo x [] c (doX x c) := ⟨x, rfl, h, rfl⟩
theorem LDo.here_eq {x z : V} {c : Cp} (h : LDo x [] c z) : CanX x c ∧ z = doX x c := by
 obtain ⟨y, h1, h2, h3⟩ := h
 simp only [getV, Option.some.injEq] at h1
 subst h1
 simp only [putV, Option.some.injEq] at h3
 exact ⟨h2, h3.symm⟩
theorem LDoL.one {x z : V} {q : List St} {c : Cp} (h : LDo x q c z) : LDoL x [(q, c)] z := ⟨z, h, rfl⟩
theorem doX_1 {x : V} {c : Cp} (h : c.kind = 1) : doX x c = .mk x.kind (IntKind.i64.wrap (x.n + c.n)) x.s x.l x.o := by unfold doX; rw [if_pos h]
theorem doX_23 {x : V} {c : Cp} (h : c.kind = 2 ∨ c.kind = 3) : doX x c = withO x (fldR (.mk c.key c.v) (c.kind.toNat == 3) x.o) := by
 unfold doX; rw [if_neg (by rcases h with h | h <;> rw [h] <;> decide), if_pos h]
theorem doX_89 {x : V} {c : Cp} (h : c.kind = 8 ∨ c.kind = 9) : doX x c = .mk x.kind x.n (textD x.s c) x.l x.o := by
 unfold doX; rw [if_neg (by rcases h with h | h <;> rw [h] <;> decide), if_neg (by rcases h with h | h <;> rw [h] <;> decide), if_pos h]
theorem doX_l {x : V} {c : Cp} (h : checkL x.l.length c.kind c.i c.j = 0) : ∃ ys, doL x.l ⟨c.kind, c.i, c.j, c.v⟩ = some ys ∧ doX x c = .mk x.kind x.n x.s ys x.o := by
 obtain ⟨l', h1, _, _⟩ := do_F x.l ⟨c.kind, c.i, c.j, c.v⟩ h
 refine ⟨l', h1, ?_⟩
 have hk : c.kind = 4 ∨ c.kind = 5 ∨ c.kind = 6 ∨ c.kind = 7 := by rcases check_ok h with h | h | h | h <;> simp [h.1]
 unfold doX
 rw [if_neg (by rcases hk with h | h | h | h <;> rw [h] <;> decide), if_neg (by rcases hk with h | h | h | h <;> rw [h] <;> decide), if_neg (by rcases hk with h | h | h | h <;> rw [h] <;> decide), h1]
 rfl
theorem textC_asc {s : ByteArray} {c : Cp} (hs : AscB s) (hc : AscB c.s) (h : TextC s.size c) : AscB (textD s c) := by
 intro b hb
 rcases h with ⟨h, _⟩ | ⟨h, _⟩
 ·rw [textD_8 s h] at hb
  unfold insT at hb
  rcases List.mem_append.1 hb with hb | hb
  ·exact hs b (List.mem_of_mem_take hb)
  ·rcases List.mem_append.1 hb with hb | hb
   ·exact hc b hb
   ·exact hs b (List.mem_of_mem_drop hb)
 ·rw [textD_9 s h] at hb
  unfold delT at hb
  rcases List.mem_append.1 hb with hb | hb
  ·exact hs b (List.mem_of_mem_take hb)
  ·exact hs b (List.mem_of_mem_drop hb)
theorem textC_size {s : ByteArray} {c : Cp} (h : TextC s.size c) : (textD s c).size ≤ s.size + c.s.size := by
 rcases h with ⟨h, i, h1, h2⟩ | ⟨h, i, m, h1, h2, h3, h4⟩
 ·rw [ins_size h (by omega)]; exact Nat.le_refl _
 ·rw [del_size h (by omega)]; omega
theorem getV_cons {x y : V} {s : St} {r : List St} {loc : Loc} (h1 : stepV x s = some loc) (h2 : x.child? loc = some y) : getV x (s :: r) = getV y r := by simp only [getV, h1, h2]
theorem putV_cons {x y a : V} {s : St} {r : List St} {loc : Loc} (h1 : stepV x s = some loc) (h2 : x.child? loc = some y) : putV x (s :: r) a = (putV y r a).map (x.put loc) := by simp only [putV, h1, h2]
theorem LDo.step {x z : V} {s : St} {r : List St} {c : Cp} (h : LDo x (s :: r) c z) : ∃ loc y y', stepV x s = some loc ∧ x.child? loc = some y ∧ LDo y r c y' ∧ z = x.put loc y' := by
 obtain ⟨u, h1, h2, h3⟩ := h
 cases e : stepV x s with
 | none => simp only [getV, e] at h1; cases h1
 | some loc =>
  obtain ⟨y, hy⟩ := stepV_child e
  rw [getV_cons e hy] at h1
  rw [putV_cons e hy, Option.map_eq_some_iff] at h3
  obtain ⟨y', h4, h5⟩ := h3
  exact ⟨loc, y, y', rfl, hy, ⟨u, h1, h2, h4⟩, h5.symm⟩
theorem put_comm {x y1 y2 : V} {a b : Loc} (hne : a ≠ b) (h1 : x.child? a = some y1) (h2 : x.child? b = some y2) (z1 z2 : V) : (x.put a z1).put b z2 = (x.put b z2).put a z1 := by
 cases x with
 | mk k n s l o =>
  cases a with
  | l i =>
   cases b with
   | l j => simp only [V.put, V.mk.injEq, true_and, and_true]; exact (List.set_comm _ _ fun e => hne (by rw [e]))
   | o j => rfl
  | o i =>
   cases b with
   | l j => rfl
   | o j =>
    have hij : i ≠ j := fun e => hne (by rw [e])
    rw [child_o] at h1 h2
    have h1 : (o[i]?).map F.v = some y1 := h1
    have h2 : (o[j]?).map F.v = some y2 := h2
    rw [Option.map_eq_some_iff] at h1 h2
    obtain ⟨f, hf, _⟩ := h1
    obtain ⟨g, hg, _⟩ := h2
    simp only [V.put, hf, hg]
    rw [List.getElem?_set_ne hij, List.getElem?_set_ne hij.symm, hf, hg]
    simp only [V.mk.injEq, true_and]
    exact List.set_comm _ _ hij
theorem putV_is {v x : V} {p : List St} (h : getV v p = some x) (z : V) : ∃ w, putV v p z = some w := by
 have h1 := putV_some p v z
 rw [h] at h1
 cases h2 : putV v p z with
 | none => rw [h2] at h1; cases h1
 | some w => exact ⟨w, rfl⟩
def PDo (v : V) (c : Cp) (z : V) : Prop := LDo v c.path c z
theorem LDo.path {x z : V} {q p : List St} {c : Cp} (h : LDo x q c z) : LDo x q { c with path := p } z := h
end Go.Proofs.YtggkidnlmaindaaDoor
