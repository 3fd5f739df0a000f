/- PathP: laid together. -/
import Derived.Test.YtioplgfopillnaaDoorTtB8
import Derived.Laws.IdiomCopy
/- path.Put, by contract. -/
set_option linter.unusedSimpArgs false
set_option linter.unusedVariables false
namespace Go.Proofs.YtioplgfopillnaaDoor
open Go.RowKit
set_option linter.unusedVariables false

/-- Where Put stands. -/
def PutI (w0 : World) (xb rb : Nat) (u3 u4 : Value) (v x : V) (p : List St) (w' : World) (j b off : Nat) (y : V) : Prop :=
  ∃ (f : V → V) (a c : Nat), getV v (p.take j) = some y ∧ (∀ z, putV v (p.take j) z = some (f z)) ∧ PtrT w' b off y a c ∧ Hole w' (fun q => w0.heap.size ≤ q) rb 0 b off f a c ∧ c ≤ w'.heap.size ∧ b < w'.heap.size ∧ w0.heap.size ≤ a ∧ w0.heap.size ≤ b ∧ b ≠ xb ∧ Ext w0 w' ∧
    Blk w' xb TVAL #[U8 x.kind, .int .i64 x.n, .string x.s, u3, u4] ∧ xb < a ∧ b ≠ xb + 1 ∧ xb + 1 < a ∧ Blk w' (xb + 1) TVAL #[.int .u8 0, .int .i64 0, .string ⟨#[]⟩, .slice none 0 0, .slice none 0 0]
theorem PutI.ext {w0 w' w'' : World} {xb rb : Nat} {u3 u4 : Value} {v x y : V} {p : List St} {j b off : Nat} (h : PutI w0 xb rb u3 u4 v x p w' j b off y) (he : Ext w' w'') : PutI w0 xb rb u3 u4 v x p w'' j b off y := by
  obtain ⟨f, a, c, h1, h2, h3, h4, h5, h6, h7, h8, h9, h10, h11, h12, h13, h14, h15⟩ := h
  exact ⟨f, a, c, h1, h2, h3.ext he, h4.ext he h5 h6, Nat.le_trans h5 he.size, Nat.lt_of_lt_of_le h6 he.size, h7, h8, h9, h10.ext he, h11.keep he id, h12, h13, h14, h15.keep he id⟩
theorem PutI.step {w0 w' : World} {xb rb : Nat} {u3 u4 : Value} {v x y : V} {p : List St} {j b off : Nat} (h : PutI w0 xb rb u3 u4 v x p w' j b off y) (hj : j < p.length) :
    ∃ lv ov S1 S2, At5 w' b off [U8 y.kind, .int .i64 y.n, .string y.s, lv, ov] ∧ Sl EVal w' S1 lv y.l ∧ Sl EField w' S2 ov y.o ∧ NextI (PutI w0 xb rb u3 u4 v x p) w' j lv ov y p[j] := by
  obtain ⟨f, a, c, h1, h2, h3, h4, h5, h6, h7, h8, h9, h10, h11, h12, h13, h14, h15⟩ := h
  have h3' := h3
  obtain ⟨cs, g1, g2, g3, g4⟩ := h3'
  obtain ⟨lv, ov, rfl, hl, ho⟩ := rdV_iff.1 (TV_rd (S := fun q => a ≤ q ∧ q < c) _ _ _ _ (fun q h1 h2 => ⟨h1, h2⟩) g2)
  refine ⟨lv, ov, _, _, g1, hl, ho, ?_⟩
  have hsn := getV_snoc (p.take j) v p[j]
  have hpn := fun z => putV_append (p.take j) [p[j]] v z
  rw [List.take_append_getElem hj, h1, Option.bind_some] at hsn
  rw [List.take_append_getElem hj, h1] at hpn
  simp only [Option.bind_some] at hpn
  unfold NextI
  cases hst : stepV y p[j] with
  | none => trivial
  | some loc =>
    rw [hst, Option.bind_some] at hsn
    obtain ⟨z, hz⟩ := stepV_child hst
    rw [hz] at hsn
    have hpn' : ∀ t, putV v (p.take (j + 1)) t = some (f (y.put loc t)) := fun t => by rw [hpn t, putV_one hst, Option.bind_some, h2]
    have hSx : ∀ q, a ≤ q → q < c → w0.heap.size ≤ q := fun q hq _ => by omega
    cases y with
    | mk k n s l o =>
      cases loc with
      | l i =>
        have hi := (List.getElem?_eq_some_iff.1 (show l[i]? = some z from hz)).1
        obtain ⟨g, cap, ai, bi, lv', ov', e1, e2, e3, e4, e5, e8, e6⟩ := h4.stepL h3 hSx h5 i hi
        rw [(List.getElem?_eq_some_iff.1 (show l[i]? = some z from hz)).2] at e3
        have e7 : lv' = lv := by
          have q1 := e1 3 lv' rfl
          have q2 := g1 3 lv rfl
          exact Option.some.inj (q1.symm.trans q2)
        subst e7
        obtain ⟨cs3, k1, k2, k3, k4⟩ := e3
        have k5 := TV_le _ _ _ _ k2
        obtain ⟨u, hu⟩ : ∃ u, cs3[0]? = some u := ⟨cs3[0]'(by omega), by simp⟩
        have hgl : g < w'.heap.size := lt_of_cell (k1 0 u hu)
        exact ⟨g, 0, cap, z, e2, _, ai, bi, hsn, hpn', ⟨cs3, k1, k2, k3, k4⟩, e6, by omega, hgl, by omega, by omega, by omega, h10, h11, by omega, by omega, by omega, h15⟩
      | o i =>
        cases hf : o[i]? with
        | none => rw [child_o] at hz; simp only [V.o] at hz; rw [hf] at hz; cases hz
        | some t =>
          rw [child_o] at hz; simp only [V.o] at hz; rw [hf] at hz
          obtain rfl : t.v = z := by simpa using hz
          have hi := (List.getElem?_eq_some_iff.1 hf).1
          obtain ⟨g, cap, ai, bi, lv', ov', e1, e2, e3, e4, e5, e8, e6⟩ := h4.stepO h3 hSx h5 i hi
          rw [(List.getElem?_eq_some_iff.1 hf).2] at e3
          have e7 : ov' = ov := by
            have q1 := e1 4 ov' rfl
            have q2 := g1 4 ov rfl
            exact Option.some.inj (q1.symm.trans q2)
          subst e7
          obtain ⟨cs3, k1, k2, k3, k4⟩ := e3
          have k5 := TV_le _ _ _ _ k2
          obtain ⟨u, hu⟩ : ∃ u, cs3[0]? = some u := ⟨cs3[0]'(by omega), by simp⟩
          have hgl : g < w'.heap.size := lt_of_cell (k1 0 u hu)
          exact ⟨g, 0, cap, t.v, e2, _, ai, bi, hsn, hpn', ⟨cs3, k1, k2, k3, k4⟩, e6, by omega, hgl, by omega, by omega, by omega, h10, h11, by omega, by omega, by omega, h15⟩

end Go.Proofs.YtioplgfopillnaaDoor
