/- A row of the call's own, the elements of which are overwritten one by one by the same in other memory. No program. -/
import Derived.Test.YtggkidnlmaindaaDoorOwn
set_option linter.unusedSimpArgs false
set_option linter.unusedVariables false
namespace Go.Proofs.YtggkidnlmaindaaDoor
open Go.RowKit

/-- The first j elements have their data in S1, those behind them in S0. -/
def Mix {α : Type} (E : El α) (w : World) (base : Nat) (T : TypeId) (S1 S0 : BS) (v : Value) (xs : List α) (j : Nat) : Prop :=
  (v = .slice none 0 0 ∧ xs = []) ∨
  ∃ g cap cur, v = .slice (some ⟨g, 0, none⟩) xs.length cap ∧ base ≤ g ∧ Blk w g T cur ∧ xs.length ≤ cap ∧ cap ≤ maxLen ∧ cur.size = cap * E.size ∧
    Cells E w S1 (cur.toList.take (j * E.size)) (xs.take j) ∧ Cells E w S0 ((cur.toList.take (xs.length * E.size)).drop (j * E.size)) (xs.drop j)

section
variable {α : Type} {E : El α} {Fr : Nat → Prop} {w w' : World} {S1 S0 : BS} {base : Nat} {T : TypeId} {v : Value} {xs : List α} {j : Nat}
theorem Mix.start (h : Own E w base T S0 v xs) : Mix E w base T S1 S0 v xs 0 := by
  rcases h with h | ⟨g, cap, cur, e, h1, h2, h3, h4, h5, h6⟩
  · exact .inl h
  · exact .inr ⟨g, cap, cur, e, h1, h2, h3, h4, h5, by simp only [Nat.zero_mul, List.take_zero]; rfl, by simpa using h6⟩
theorem Mix.done (h : Mix E w base T S1 S0 v xs xs.length) : Own E w base T S1 v xs := by
  rcases h with h | ⟨g, cap, cur, e, h1, h2, h3, h4, h5, h6, _⟩
  · exact .inl h
  · exact .inr ⟨g, cap, cur, e, h1, h2, h3, h4, h5, by rwa [List.take_length] at h6⟩
theorem Mix.shape (h : Mix E w base T S1 S0 v xs j) : ∃ A c, v = .slice A xs.length c ∧ xs.length ≤ c ∧ c ≤ maxLen := by
  rcases h with ⟨rfl, rfl⟩ | ⟨g', cap, cur, rfl, h1, h2, h3, h4, _⟩
  · exact ⟨none, 0, rfl, by simp, by simp [maxLen]⟩
  · exact ⟨_, cap, rfl, h3, h4⟩
theorem Mix.lt (h : Mix E w base T S1 S0 v xs j) {g : Nat} (hg : v.ownBlock = some g) : base ≤ g ∧ g < w.heap.size := by
  rcases h with ⟨rfl, _⟩ | ⟨g', cap, cur, rfl, h1, h2, _⟩
  · simp [Value.ownBlock] at hg
  · simp [Value.ownBlock] at hg; subst hg; exact ⟨h1, h2.lt⟩
theorem Mix.keep (hE : E.Ok) (h : Mix E w base T S1 S0 v xs j) (hk : Keep Fr w w') (hF1 : ∀ k, S1 k → ¬ Fr k) (hF0 : ∀ k, S0 k → ¬ Fr k) (hg : ∀ g, v.ownBlock = some g → ¬ Fr g) : Mix E w' base T S1 S0 v xs j := by
  rcases h with h | ⟨g', cap, cur, rfl, h1, h2, h3, h4, h5, h6, h7⟩
  · exact .inl h
  · exact .inr ⟨g', cap, cur, rfl, h1, h2.keep hk (hg g' rfl), h3, h4, h5, h6.keep hE hk hF1, h7.keep hE hk hF0⟩
theorem Mix.ext (hE : E.Ok) (h : Mix E w base T S1 S0 v xs j) (hk : Ext w w') : Mix E w' base T S1 S0 v xs j := h.keep hE hk (fun _ _ x => x) (fun _ _ x => x) (fun _ _ x => x)
/-- The next element: its cells; what it comes to when it is overwritten. -/
theorem Mix.next (hE : E.Ok) (h : Mix E w base T S1 S0 v xs j) (hj : j < xs.length) :
    ∃ g cap c0, v = .slice (some ⟨g, 0, none⟩) xs.length cap ∧ base ≤ g ∧ g < w.heap.size ∧ E.rd w S0 c0 xs[j] ∧ (∀ i u, c0[i]? = some u → w.cell? ⟨g, j * E.size + i, none⟩ = some u) ∧ (∀ i, w.frozen? ⟨g, i, none⟩ = false) ∧
      ∀ (w' w'' : World) (c' : List Value), Ext w w' → Keep (· = g) w' w'' → ¬ S1 g → ¬ S0 g → E.rd w'' S1 c' xs[j] →
        (∀ cur, Blk w' g T cur → j * E.size + E.size ≤ cur.size → c0 = (cur.toList.drop (j * E.size)).take E.size → ∃ cur', Blk w'' g T cur' ∧ cur'.toList = cur.toList.take (j * E.size) ++ c' ++ cur.toList.drop (j * E.size + E.size)) → Mix E w'' base T S1 S0 v xs (j + 1) := by
  rcases h with ⟨_, rfl⟩ | ⟨g, cap, cur, rfl, h1, h2, h3, h4, h5, h6, h7⟩
  · simp at hj
  have hj1 : j * E.size + E.size ≤ xs.length * E.size := by rw [← Nat.succ_mul]; exact Nat.mul_le_mul_right _ hj
  have hj2 : xs.length * E.size ≤ cap * E.size := Nat.mul_le_mul_right _ h3
  have hcl : cur.toList.length = cap * E.size := by simpa using h5
  have h7' := h7
  rw [List.drop_eq_getElem_cons hj] at h7'
  obtain ⟨c0, c1, e, hrd, hrest⟩ := h7'
  have hl0 := hE.len hrd
  have hc0 : c0 = (cur.toList.drop (j * E.size)).take E.size := by
    have : ((cur.toList.take (xs.length * E.size)).drop (j * E.size)).take E.size = c0 := by rw [e]; exact List.take_left' hl0
    rw [← this, List.drop_take, List.take_take, Nat.min_eq_left (by omega)]
  have hc1 : c1 = (cur.toList.take (xs.length * E.size)).drop (j * E.size + E.size) := by
    rw [← List.drop_drop, e]; exact (List.drop_left' hl0).symm
  refine ⟨g, cap, c0, rfl, h1, h2.lt, hrd, fun i u hu => ?_, fun i => h2.frozen i, fun w' w'' c' hE' hk hS1 hS0 hrd' hupd => ?_⟩
  · rw [h2.cell]
    rw [hc0, List.getElem?_take] at hu
    split at hu
    · rw [List.getElem?_drop] at hu; simpa using hu
    · cases hu
  · obtain ⟨cur', hb', hcur'⟩ := hupd cur (h2.keep hE' id) (by omega) hc0
    have hlen' := hE.len hrd'
    have hc'l : cur'.size = cap * E.size := by
      have : cur'.toList.length = cap * E.size := by rw [hcur']; simp only [List.length_append, List.length_take, List.length_drop, hlen', hcl]; omega
      simpa using this
    refine .inr ⟨g, cap, cur', rfl, h1, hb', h3, h4, hc'l, ?_, ?_⟩
    · rw [hcur', Nat.succ_mul, List.take_left' (by simp only [List.length_append, List.length_take, List.length_drop, hlen', hcl]; omega), ← List.take_append_getElem hj]
      exact ((h6.keep hE hE' fun _ _ x => x).keep hE hk (fun k hk e => hS1 (e ▸ hk))).append (Cells.single hrd')
    · have : (cur'.toList.take (xs.length * E.size)).drop ((j + 1) * E.size) = c1 := by
        rw [hc1, hcur', Nat.succ_mul]
        apply List.ext_getElem?
        intro i
        rw [List.getElem?_drop, List.getElem?_drop, List.getElem?_take, List.getElem?_take]
        split
        · rw [List.getElem?_append_right (by simp only [List.length_append, List.length_take, List.length_drop, hlen', hcl]; omega), List.getElem?_drop]
          congr 1
          simp only [List.length_append, List.length_take, List.length_drop, hlen', hcl]; omega
        · rfl
      rw [this]
      exact (hrest.keep hE hE' fun _ _ x => x).keep hE hk (fun k hk e => hS0 (e ▸ hk))
end
end Go.Proofs.YtggkidnlmaindaaDoor
