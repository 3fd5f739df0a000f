/- Package net: DeleteFunc, Cut. -/
import Derived.Test.YtjpbfdkpkeaofaaNetCut
set_option linter.unusedSimpArgs false
set_option linter.unusedVariables false
namespace Go.Proofs.Ytjpbfdkpkeaofaa
open Go.RowKit
set_option linter.unusedVariables false

theorem one_zeroCells (n : Nat) : ∀ u ∈ (Builtin.zeroCells #[.int .i64 0, .bool false, .slice none 0 0] n).toList, u.oneCell' = true := by
  intro u hu
  simp [Builtin.zeroCells] at hu
  obtain ⟨i, _, rfl⟩ := hu
  have : i % 3 = 0 ∨ i % 3 = 1 ∨ i % 3 = 2 := by omega
  rcases this with h | h | h <;> simp [h] <;> rfl

/-- 'clear' of some elements. -/
theorem run_clearN (w : World) (g o k cap : Nat) (cur : Array Value) (hb : Blk w g TMAIL cur) (hk : 0 < k) (ho : o + k * 3 ≤ cur.size) :
    ∃ Z : List Value, Z.length = k * 3 ∧ ∀ ty : TypeId, (Builtin.clear_ #[TMAILS] ty #[.slice (some ⟨g, o, none⟩) k cap]).run Try.prog w = .ok (.tuple #[]) (w.setRow g (cur.toList.take o ++ Z ++ cur.toList.drop (o + k * 3)).toArray) := by
  have hl : (Builtin.zeroCells #[.int .i64 0, .bool false, .slice none 0 0] k).toList.length = k * 3 := by simp [Builtin.zeroCells]
  have hst := run_storeCells_at Try.prog g o TMAIL (Builtin.zeroCells #[.int .i64 0, .bool false, .slice none 0 0] k).toList 0 cur w hb (by rw [hl]; omega) (one_zeroCells k)
  simp only [Nat.add_zero] at hst
  rw [hl] at hst
  refine ⟨_, hl, fun ty => ?_⟩
  have hzv := zero_mail
  obtain ⟨k, rfl⟩ : ∃ m, k = m + 1 := ⟨k - 1, by omega⟩
  simp [Builtin.clear_, run_underlying Try.underlying27, hzv, Value.cells, hst]

/-- DeleteFunc's rows as the loop goes: F is kept, R is yet to be seen, from the j-th on. -/
def DelAt (w : World) (g : Nat) (S : BS) (cap n : Nat) (F R : List Mail) (j : Nat) : Prop :=
  ∃ cur, Blk w g TMAIL cur ∧ cur.size = cap * 3 ∧ Cells EMail w S (cur.toList.take (F.length * 3)) F ∧ Cells EMail w S ((cur.toList.take (n * 3)).drop (j * 3)) R

section
variable {w w' : World} {g : Nat} {S : BS} {cap n j : Nat} {F R : List Mail} {m : Mail}
theorem DelAt.cell (h : DelAt w g S cap n F (m :: R) j) :
    ∃ bv, w.cell? ⟨g, j * 3, none⟩ = some (.int .i64 m.sess) ∧ w.cell? ⟨g, j * 3 + 1, none⟩ = some (.bool m.up) ∧ w.cell? ⟨g, j * 3 + 2, none⟩ = some bv ∧ BytesS w S bv m.b := by
  obtain ⟨cur, h1, h2, h3, h4⟩ := h
  obtain ⟨c0, c1, e, ⟨bv, rfl, hb⟩, _⟩ := h4
  have key : ∀ i u, ([.int .i64 m.sess, .bool m.up, bv] : List Value)[i]? = some u → w.cell? ⟨g, j * 3 + i, none⟩ = some u := fun i u hu => by
    have e1 : ((cur.toList.take (n * 3)).drop (j * 3))[i]? = some u := by
      rw [e, List.getElem?_append_left (List.getElem?_eq_some_iff.1 hu).1, hu]
    rw [List.getElem?_drop, List.getElem?_take] at e1
    split at e1
    · rw [h1.cell]; simpa using e1
    · cases e1
  exact ⟨bv, key 0 _ rfl, key 1 _ rfl, key 2 _ rfl, hb⟩
theorem DelAt.keep {P : Nat → Prop} (h : DelAt w g S cap n F R j) (he : Keep P w w') (hg : ¬ P g) (hS : ∀ k, S k → ¬ P k) : DelAt w' g S cap n F R j := by
  obtain ⟨cur, h1, h2, h3, h4⟩ := h
  exact ⟨cur, h1.keep he hg, h2, h3.keep EMail.ok he hS, h4.keep EMail.ok he hS⟩
theorem DelAt.ext (h : DelAt w g S cap n F R j) (he : Ext w w') : DelAt w' g S cap n F R j := h.keep he id (fun _ _ x => x)
theorem DelAt.frozen (h : DelAt w g S cap n F R j) (i : Nat) : w.frozen? ⟨g, i, none⟩ = false := by
  obtain ⟨cur, h1, _⟩ := h; exact h1.frozen i
theorem DelAt.lt (h : DelAt w g S cap n F R j) : g < w.heap.size := by
  obtain ⟨cur, h1, _⟩ := h; exact h1.lt
theorem DelAt.there (h : DelAt w g S cap n F R j) {i : Nat} (hi : i < cap) {q : Nat} (hq : q < 3) : ∃ u, w.cell? ⟨g, i * 3 + q, none⟩ = some u := by
  obtain ⟨cur, h1, h2, _⟩ := h
  exact ⟨cur[i * 3 + q]'(by omega), by rw [h1.cell]; simp⟩
theorem DelAt.skip (h : DelAt w g S cap n F (m :: R) j) : DelAt w g S cap n F R (j + 1) := by
  obtain ⟨cur, h1, h2, h3, h4⟩ := h
  refine ⟨cur, h1, h2, h3, ?_⟩
  obtain ⟨c0, c1, e, ⟨bv, rfl, _⟩, h5⟩ := h4
  have : (cur.toList.take (n * 3)).drop ((j + 1) * 3) = ((cur.toList.take (n * 3)).drop (j * 3)).drop 3 := by rw [List.drop_drop]; congr 1; omega
  rw [this, e]
  exact h5
theorem DelAt.put {bv : Value} (h : DelAt w g S cap n F (m :: R) j) (hF : F.length < j) (hj : j < n) (hc : n ≤ cap) (hS : ¬ S g) (hb : BytesS w S bv m.b) :
    DelAt (((w.setCell ⟨g, F.length * 3, none⟩ (.int .i64 m.sess)).setCell ⟨g, F.length * 3 + 1, none⟩ (.bool m.up)).setCell ⟨g, F.length * 3 + 2, none⟩ bv) g S cap n (F ++ [m]) R (j + 1) := by
  obtain ⟨cur, h1, h2, h3, h4⟩ := h
  have hK : Keep (fun k => k = g) w (((w.setCell ⟨g, F.length * 3, none⟩ (.int .i64 m.sess)).setCell ⟨g, F.length * 3 + 1, none⟩ (.bool m.up)).setCell ⟨g, F.length * 3 + 2, none⟩ bv) :=
    (((Keep.refl (fun k => k = g) w).set1 (F.length * 3) _).set1 (F.length * 3 + 1) _).set1 (F.length * 3 + 2) _
  have hSk : ∀ k, S k → ¬ k = g := fun k hk e => hS (e ▸ hk)
  have hl : cur.toList.length = cap * 3 := by simpa using h2
  have hs := set3 cur.toList (F.length * 3) (.int .i64 m.sess) (.bool m.up) bv (by rw [hl]; omega)
  refine ⟨_, ((h1.set_ _ _).set_ _ _).set_ _ _, by simpa using h2, ?_, ?_⟩
  · simp only [Array.toList_setIfInBounds]
    rw [hs, List.take_append_of_le_length (by simp [hl]; omega), List.take_of_length_le (by simp [hl]; omega)]
    exact (h3.keep EMail.ok hK hSk).append (Cells.single ⟨bv, rfl, hb.keep EU8.ok hK hSk⟩)
  · simp only [Array.toList_setIfInBounds]
    rw [hs]
    have e1 : ((List.take (F.length * 3) cur.toList ++ [.int .i64 m.sess, .bool m.up, bv] ++ List.drop (F.length * 3 + 3) cur.toList).take (n * 3)).drop ((j + 1) * 3) = ((cur.toList.take (n * 3)).drop (j * 3)).drop 3 := by
      apply List.ext_getElem?
      intro i
      rw [List.getElem?_drop, List.getElem?_drop, List.getElem?_drop, List.getElem?_take, List.getElem?_take]
      rw [show (j + 1) * 3 + i = j * 3 + (3 + i) from by omega]
      split
      · rw [List.getElem?_append_right (by simp [hl]; omega)]
        rw [List.getElem?_drop]
        congr 1
        simp [hl]; omega
      · rfl
    rw [e1]
    obtain ⟨c0, c1, e, ⟨bv', rfl, _⟩, h5⟩ := h4
    rw [e]
    exact h5.keep EMail.ok hK hSk
end
end Go.Proofs.Ytjpbfdkpkeaofaa
