/- LawOne, PathB, PathAtG, CloneVal, CloneField, MixT: laid together. -/
import Derived.Test.YtioplgfopillnaaDoorTtB4
import Derived.Test.YtioplgfopillnaaDoorTtB6
import Derived.Test.YtioplgfopillnaaDoorTtB5
import Derived.Test.YtioplgfopillnaaDoorTtB2
/- LawOneL, LawOneO, LawOne in one. -/
set_option linter.unusedSimpArgs false
set_option linter.unusedVariables false
/- The law's 'one': lists. -/
namespace Go.Proofs.YtioplgfopillnaaDoor
open Go.RowKit
set_option linter.unusedVariables false

end Go.Proofs.YtioplgfopillnaaDoor

/- The law's 'one': objects. -/
namespace Go.Proofs.YtioplgfopillnaaDoor
open Go.RowKit
set_option linter.unusedVariables false


end Go.Proofs.YtioplgfopillnaaDoor

/- The law's 'one' and 'Build', by contract: a sound value, in new memory. -/
namespace Go.Proofs.YtioplgfopillnaaDoor
open Go.RowKit
set_option linter.unusedVariables false

end Go.Proofs.YtioplgfopillnaaDoor

/- path.into, by contract. -/
set_option linter.unusedSimpArgs false
set_option linter.unusedVariables false
namespace Go.Proofs.YtioplgfopillnaaDoor
open Go.RowKit
set_option linter.unusedVariables false

abbrev TSTEP : Nat := 59
/-- What a step's place is, in memory. -/
def IntoIs (lv ov : Value) (x : V) (s : St) (e : Ending) : Prop := match stepV x s with
  | none => e = .returned (.pointer none)
  | some (.l i) => ∀ g o cap, lv = .slice (some ⟨g, o, none⟩) x.l.length cap → e = .returned (.pointer (some ⟨g, o + i * 5, none⟩))
  | some (.o k) => ∀ g o cap, ov = .slice (some ⟨g, o, none⟩) x.o.length cap → e = .returned (.pointer (some ⟨g, o + k * 6 + 1, none⟩))

/-- Where a step from x leads, I holds there. -/
def NextI (I : World → Nat → Nat → Nat → V → Prop) (w : World) (j : Nat) (lv ov : Value) (x : V) (s : St) : Prop := match stepV x s with
  | none => True
  | some (.l i) => ∃ g o c y, lv = .slice (some ⟨g, o, none⟩) x.l.length c ∧ I w (j + 1) g (o + i * 5) y
  | some (.o k) => ∃ g o c y, ov = .slice (some ⟨g, o, none⟩) x.o.length c ∧ I w (j + 1) g (o + k * 6 + 1) y
theorem IntoIs.next {I : World → Nat → Nat → Nat → V → Prop} {w : World} {j : Nat} {lv ov : Value} {x : V} {s : St} {e : Ending} (h : IntoIs lv ov x s e) (hn : NextI I w j lv ov x s) :
    (e = .returned (.pointer none) ∧ stepV x s = none) ∨ ∃ g o y, e = .returned (.pointer (some ⟨g, o, none⟩)) ∧ I w (j + 1) g o y := by
  unfold IntoIs at h
  unfold NextI at hn
  cases hs : stepV x s with
  | none => rw [hs] at h; exact .inl ⟨h, rfl⟩
  | some loc =>
    rw [hs] at h hn
    cases loc with
    | l i => obtain ⟨g, o, c, y, h1, h2⟩ := hn; exact .inr ⟨g, _, y, h g o c h1, h2⟩
    | o k => obtain ⟨g, o, c, y, h1, h2⟩ := hn; exact .inr ⟨g, _, y, h g o c h1, h2⟩
end Go.Proofs.YtioplgfopillnaaDoor

/- path.at with a function of the caller's, by contract. -/
set_option linter.unusedSimpArgs false
set_option linter.unusedVariables false
namespace Go.Proofs.YtioplgfopillnaaDoor
open Go.RowKit
set_option linter.unusedVariables false

end Go.Proofs.YtioplgfopillnaaDoor

/- slices.Clone, by contract. -/
set_option linter.unusedSimpArgs false
set_option linter.unusedVariables false
namespace Go.Proofs.YtioplgfopillnaaDoor
open Go.RowKit
set_option linter.unusedVariables false

set_option maxHeartbeats 400000 in
theorem clone_vals (v : Value) (l : List _) (S : BS) (w : World) (hv : Sl EVal w S v l) (hl : l.length ≤ 1000000) (hSr : ∀ k, S k → k < w.heap.size) :
    Calls Tryd.prog 77 #[v] w fun e w' => ∃ v', e = .returned v' ∧ Own EVal w' w.heap.size TVAL S v' l ∧ Ext w w' := by
  obtain ⟨A, c, rfl, h1, h2⟩ := hv.shape
  unfold maxLen at h2
  cases A with
  | none =>
    have hn : l = [] := by
      obtain ⟨cs, ⟨_, A', c', e, _, _, h3⟩, _⟩ := hv
      rcases Nat.eq_zero_or_pos l.length with h0 | h0
      · exact List.eq_nil_of_length_eq_zero h0
      · obtain ⟨b, off, e', _⟩ := h3 h0
        injection e with e1 _ _
        rw [e'] at e1
        cases e1
    subst hn
    have heq := Lib.run_eql_slice_nil (P := Tryd.prog) w 28 TVAL none 0 c 0 0 Tryd.underlying28
    rw [List.length_nil]
    go_enter Tryd.func77, Tryd.ntmps77
    go_wp2
    go_ret
    exact ⟨_, rfl, Own.nil _ _ _ _, Keep.refl _ _⟩
  | some a =>
    have heq := Lib.run_eql_slice_nil (P := Tryd.prog) w 28 TVAL (some a) l.length c 0 0 Tryd.underlying28
    have hown : Own EVal (w.alloc (.cells #[] TVAL)) w.heap.size TVAL (fun _ => False) (.slice (some ⟨w.heap.size, 0, none⟩) 0 0) [] :=
      .inr ⟨w.heap.size, 0, #[], rfl, Nat.le_refl _, Blk.new _ _ _, by simp, by simp [maxLen], by simp, rfl⟩
    have hsrc := hv.ext EVal.ok ((Keep.refl _ _).alloc (.cells #[] TVAL))
    have HSr := hid hSr
    clear hSr
    go_enter Tryd.func77, Tryd.ntmps77
    go_wp2_with (at_builtin; refine wpList_own_append _ rfl (.tmp 5) (.tmp 6) EVal.ok ty_val rfl rfl rfl hown hsrc ?c1 ?c2 ?c3 ?c4 ?_)
    case c1 => intro g hg; have hg : w.heap.size = g := Option.some.inj hg; exact ⟨id, fun h => by have := HSr.out _ h; omega⟩
    case c2 => simp; omega
    case c3 => simp [maxLen]; omega
    case c4 => simp
    intro v' w' hown' hk hb
    have hE : Ext w w' := ((Keep.refl (fun _ => False) w).alloc _).trans hk (fun k hlt e => by have e : w.heap.size = k := Option.some.inj e; omega)
    have H := hid (hown'.more (S' := S) EVal.ok (fun k _ h => by first | exact h | exact Or.elim h False.elim id))
    clear hown' hb hsrc hown
    go_wp2
    go_ret
    exact ⟨_, rfl, H.out, hE⟩
end Go.Proofs.YtioplgfopillnaaDoor

/- slices.Clone, by contract. -/
set_option linter.unusedSimpArgs false
set_option linter.unusedVariables false
namespace Go.Proofs.YtioplgfopillnaaDoor
open Go.RowKit
set_option linter.unusedVariables false

set_option maxHeartbeats 400000 in
theorem clone_fields (v : Value) (l : List _) (S : BS) (w : World) (hv : Sl EField w S v l) (hl : l.length ≤ 1000000) (hSr : ∀ k, S k → k < w.heap.size) :
    Calls Tryd.prog 78 #[v] w fun e w' => ∃ v', e = .returned v' ∧ Own EField w' w.heap.size TFIELD S v' l ∧ Ext w w' := by
  obtain ⟨A, c, rfl, h1, h2⟩ := hv.shape
  unfold maxLen at h2
  cases A with
  | none =>
    have hn : l = [] := by
      obtain ⟨cs, ⟨_, A', c', e, _, _, h3⟩, _⟩ := hv
      rcases Nat.eq_zero_or_pos l.length with h0 | h0
      · exact List.eq_nil_of_length_eq_zero h0
      · obtain ⟨b, off, e', _⟩ := h3 h0
        injection e with e1 _ _
        rw [e'] at e1
        cases e1
    subst hn
    have heq := Lib.run_eql_slice_nil (P := Tryd.prog) w 29 TFIELD none 0 c 0 0 Tryd.underlying29
    rw [List.length_nil]
    go_enter Tryd.func78, Tryd.ntmps78
    go_wp2
    go_ret
    exact ⟨_, rfl, Own.nil _ _ _ _, Keep.refl _ _⟩
  | some a =>
    have heq := Lib.run_eql_slice_nil (P := Tryd.prog) w 29 TFIELD (some a) l.length c 0 0 Tryd.underlying29
    have hown : Own EField (w.alloc (.cells #[] TFIELD)) w.heap.size TFIELD (fun _ => False) (.slice (some ⟨w.heap.size, 0, none⟩) 0 0) [] :=
      .inr ⟨w.heap.size, 0, #[], rfl, Nat.le_refl _, Blk.new _ _ _, by simp, by simp [maxLen], by simp, rfl⟩
    have hsrc := hv.ext EField.ok ((Keep.refl _ _).alloc (.cells #[] TFIELD))
    have HSr := hid hSr
    clear hSr
    go_enter Tryd.func78, Tryd.ntmps78
    go_wp2_with (at_builtin; refine wpList_own_append _ rfl (.tmp 5) (.tmp 6) EField.ok ty_field rfl rfl rfl hown hsrc ?c1 ?c2 ?c3 ?c4 ?_)
    case c1 => intro g hg; have hg : w.heap.size = g := Option.some.inj hg; exact ⟨id, fun h => by have := HSr.out _ h; omega⟩
    case c2 => simp; omega
    case c3 => simp [maxLen]; omega
    case c4 => simp
    intro v' w' hown' hk hb
    have hE : Ext w w' := ((Keep.refl (fun _ => False) w).alloc _).trans hk (fun k hlt e => by have e : w.heap.size = k := Option.some.inj e; omega)
    have H := hid (hown'.more (S' := S) EField.ok (fun k _ h => by first | exact h | exact Or.elim h False.elim id))
    clear hown' hb hsrc hown
    go_wp2
    go_ret
    exact ⟨_, rfl, H.out, hE⟩
end Go.Proofs.YtioplgfopillnaaDoor

/- A row of the call's own, the elements of which are overwritten one by one by copies, each in blocks of its own. -/
set_option linter.unusedSimpArgs false
set_option linter.unusedVariables false
namespace Go.Proofs.YtioplgfopillnaaDoor
open Go.RowKit
set_option linter.unusedVariables false

/-- Readings of a list with a range of blocks. -/
abbrev Rng (α : Type) := World → List α → Nat → Nat → List Value → Prop
/-- The first j elements lie in blocks from lo on, below hi; those behind them have their data in S0. -/
def MixT {α : Type} (E : El α) (R : Rng α) (w : World) (base : Nat) (T : TypeId) (lo hi : Nat) (S0 : BS) (v : Value) (xs : List α) (j : Nat) : Prop :=
  (v = .slice none 0 0 ∧ xs = []) ∨
  ∃ g cap cur, v = .slice (some ⟨g, 0, none⟩) xs.length cap ∧ base ≤ g ∧ Blk w g T cur ∧ xs.length ≤ cap ∧ cap ≤ maxLen ∧ cur.size = cap * E.size ∧
    R w (xs.take j) lo hi (cur.toList.take (j * E.size)) ∧ Cells E w S0 ((cur.toList.take (xs.length * E.size)).drop (j * E.size)) (xs.drop j)
structure Rng.Ok {α : Type} (R : Rng α) : Prop where
  nil : ∀ {w a b}, a ≤ b → R w [] a b []
  keep : ∀ {Fr w w' l a b cs}, Keep Fr w w' → (∀ q, a ≤ q → q < b → ¬ Fr q) → R w l a b cs → R w' l a b cs
theorem TVs.okR : Rng.Ok TVs where
  nil := fun h => by rw [TVs]; exact ⟨rfl, h⟩
  keep := fun hk hF h => TVs_keep hk _ _ _ _ hF h
theorem TFs.okR : Rng.Ok TFs where
  nil := fun h => by rw [TFs]; exact ⟨rfl, h⟩
  keep := fun hk hF h => TFs_keep hk _ _ _ _ hF h

section
variable {α : Type} {E : El α} {R : Rng α} {Fr : Nat → Prop} {w w' : World} {S0 : BS} {base lo hi : Nat} {T : TypeId} {v : Value} {xs : List α} {j : Nat}
theorem MixT.start (hR : R.Ok) (h : Own E w base T S0 v xs) (hl : lo ≤ hi) : MixT E R w base T lo hi S0 v xs 0 := by
  rcases h with h | ⟨g, cap, cur, e, h1, h2, h3, h4, h5, h6⟩
  · exact .inl h
  · exact .inr ⟨g, cap, cur, e, h1, h2, h3, h4, h5, by simp only [Nat.zero_mul, List.take_zero]; exact hR.nil hl, by simpa using h6⟩
theorem MixT.again {lo' hi' : Nat} (hR : R.Ok) (h : MixT E R w base T lo hi S0 v xs 0) (hl : lo' ≤ hi') : MixT E R w base T lo' hi' S0 v xs 0 := by
  rcases h with h | ⟨g, cap, cur, e, h1, h2, h3, h4, h5, _, h6⟩
  · exact .inl h
  · exact .inr ⟨g, cap, cur, e, h1, h2, h3, h4, h5, by simp only [Nat.zero_mul, List.take_zero]; exact hR.nil hl, h6⟩
theorem MixT.done (hR : R.Ok) (h : MixT E R w base T lo hi S0 v xs xs.length) (hl : lo ≤ hi) {b : Nat} (hb : ∀ g, v.ownBlock = some g → g < b) (hs : ∀ cs, R w xs lo hi cs → cs.length = xs.length * E.size) : ∃ cs, RowB w base b T E.size v xs.length cs ∧ R w xs lo hi cs := by
  rcases h with ⟨h, rfl⟩ | ⟨g, cap, cur, e, h1, h2, h3, h4, h5, h6, _⟩
  · exact ⟨[], ⟨by simp, .inl ⟨h, rfl⟩⟩, hR.nil hl⟩
  · rw [List.take_length] at h6
    exact ⟨_, ⟨hs _ h6, .inr ⟨g, cap, cur, e, h1, hb g (by rw [e]; rfl), h2, h3, h4, h5, rfl⟩⟩, h6⟩
theorem MixT.shape (h : MixT E R w base T lo hi S0 v xs j) : ∃ A c, v = .slice A xs.length c ∧ xs.length ≤ c ∧ c ≤ maxLen := by
  rcases h with ⟨rfl, rfl⟩ | ⟨g', cap, cur, rfl, h1, h2, h3, h4, _⟩
  · exact ⟨none, 0, rfl, by simp, by simp [maxLen]⟩
  · exact ⟨_, cap, rfl, h3, h4⟩
theorem MixT.lt (h : MixT E R w base T lo hi S0 v xs j) {g : Nat} (hg : v.ownBlock = some g) : base ≤ g ∧ g < w.heap.size := by
  rcases h with ⟨rfl, _⟩ | ⟨g', cap, cur, rfl, h1, h2, _⟩
  · simp [Value.ownBlock] at hg
  · simp [Value.ownBlock] at hg; subst hg; exact ⟨h1, h2.lt⟩
theorem MixT.keep (hE : E.Ok) (hR : R.Ok) (h : MixT E R w base T lo hi S0 v xs j) (hk : Keep Fr w w') (hF1 : ∀ k, lo ≤ k → k < hi → ¬ Fr k) (hF0 : ∀ k, S0 k → ¬ Fr k) (hg : ∀ g, v.ownBlock = some g → ¬ Fr g) : MixT E R w' base T lo hi S0 v xs j := by
  rcases h with h | ⟨g', cap, cur, rfl, h1, h2, h3, h4, h5, h6, h7⟩
  · exact .inl h
  · exact .inr ⟨g', cap, cur, rfl, h1, h2.keep hk (hg g' rfl), h3, h4, h5, hR.keep hk hF1 h6, h7.keep hE hk hF0⟩
theorem MixT.ext (hE : E.Ok) (hR : R.Ok) (h : MixT E R w base T lo hi S0 v xs j) (hk : Ext w w') : MixT E R w' base T lo hi S0 v xs j := h.keep hE hR hk (fun _ _ _ x => x) (fun _ _ x => x) (fun _ _ x => x)
/-- The next element: its cells; what it comes to when it is overwritten. -/
theorem MixT.next (hE : E.Ok) (hR : R.Ok) (h : MixT E R w base T lo hi S0 v xs j) (hj : j < xs.length) :
    ∃ g cap c0, v = .slice (some ⟨g, 0, none⟩) xs.length cap ∧ base ≤ g ∧ g < w.heap.size ∧ E.rd w S0 c0 xs[j] ∧ (∀ i u, c0[i]? = some u → w.cell? ⟨g, j * E.size + i, none⟩ = some u) ∧ (∀ i, w.frozen? ⟨g, i, none⟩ = false) ∧
      ∀ (w' w'' : World) (c' : List Value) (hi' : Nat), Ext w w' → Keep (· = g) w' w'' → ¬ (lo ≤ g ∧ g < hi) → ¬ S0 g → c'.length = E.size → (∀ cs, R w'' (xs.take j) lo hi cs → R w'' (xs.take j ++ [xs[j]]) lo hi' (cs ++ c')) →
        (∀ cur, Blk w' g T cur → j * E.size + E.size ≤ cur.size → c0 = (cur.toList.drop (j * E.size)).take E.size → ∃ cur', Blk w'' g T cur' ∧ cur'.toList = cur.toList.take (j * E.size) ++ c' ++ cur.toList.drop (j * E.size + E.size)) → MixT E R w'' base T lo hi' S0 v xs (j + 1) := by
  rcases h with ⟨_, rfl⟩ | ⟨g, cap, cur, rfl, h1, h2, h3, h4, h5, h6, h7⟩
  · simp at hj
  have hj1 : j * E.size + E.size ≤ xs.length * E.size := by rw [← Nat.succ_mul]; exact Nat.mul_le_mul_right _ hj
  have hj2 : xs.length * E.size ≤ cap * E.size := Nat.mul_le_mul_right _ h3
  have hcl : cur.toList.length = cap * E.size := by simpa using h5
  have h7' := h7
  rw [List.drop_eq_getElem_cons hj] at h7'
  obtain ⟨c0, c1, e, hrd, hrest⟩ := h7'
  have hl0 := hE.len hrd
  have hc0 : c0 = (cur.toList.drop (j * E.size)).take E.size := by
    have : ((cur.toList.take (xs.length * E.size)).drop (j * E.size)).take E.size = c0 := by rw [e]; exact List.take_left' hl0
    rw [← this, List.drop_take, List.take_take, Nat.min_eq_left (by omega)]
  have hc1 : c1 = (cur.toList.take (xs.length * E.size)).drop (j * E.size + E.size) := by
    rw [← List.drop_drop, e]; exact (List.drop_left' hl0).symm
  refine ⟨g, cap, c0, rfl, h1, h2.lt, hrd, fun i u hu => ?_, fun i => h2.frozen i, fun w' w'' c' hi' hE' hk hS1 hS0 hlen' hrd' hupd => ?_⟩
  · rw [h2.cell]
    rw [hc0, List.getElem?_take] at hu
    split at hu
    · rw [List.getElem?_drop] at hu; simpa using hu
    · cases hu
  · obtain ⟨cur', hb', hcur'⟩ := hupd cur (h2.keep hE' id) (by omega) hc0
    have hc'l : cur'.size = cap * E.size := by
      have : cur'.toList.length = cap * E.size := by rw [hcur']; simp only [List.length_append, List.length_take, List.length_drop, hlen', hcl]; omega
      simpa using this
    refine .inr ⟨g, cap, cur', rfl, h1, hb', h3, h4, hc'l, ?_, ?_⟩
    · rw [hcur', Nat.succ_mul, List.take_left' (by simp only [List.length_append, List.length_take, List.length_drop, hlen', hcl]; omega), ← List.take_append_getElem hj]
      exact hrd' _ (hR.keep hk (fun k ha hb e => hS1 ⟨e ▸ ha, e ▸ hb⟩) (hR.keep hE' (fun _ _ _ x => x) h6))
    · have : (cur'.toList.take (xs.length * E.size)).drop ((j + 1) * E.size) = c1 := by
        rw [hc1, hcur', Nat.succ_mul]
        apply List.ext_getElem?
        intro i
        rw [List.getElem?_drop, List.getElem?_drop, List.getElem?_take, List.getElem?_take]
        split
        · rw [List.getElem?_append_right (by simp only [List.length_append, List.length_take, List.length_drop, hlen', hcl]; omega), List.getElem?_drop]
          congr 1
          simp only [List.length_append, List.length_take, List.length_drop, hlen', hcl]; omega
        · rfl
      rw [this]
      exact (hrest.keep hE hE' fun _ _ x => x).keep hE hk (fun k hk e => hS0 (e ▸ hk))
end

section
variable {w : World} {S0 : BS} {base lo hi : Nat} {T : TypeId} {v : Value} {j : Nat}
theorem MixT.nextV {xs : List V} (h : MixT EVal TVs w base T lo hi S0 v xs j) (hj : j < xs.length) :
    ∃ g cap a b c d e, v = .slice (some ⟨g, 0, none⟩) xs.length cap ∧ base ≤ g ∧ g < w.heap.size ∧ VAt w S0 (.agg #[a, b, c, d, e]) xs[j] ∧
      (w.cell? ⟨g, j * 5, none⟩ = some a ∧ w.cell? ⟨g, j * 5 + 1, none⟩ = some b ∧ w.cell? ⟨g, j * 5 + 2, none⟩ = some c ∧ w.cell? ⟨g, j * 5 + 3, none⟩ = some d ∧ w.cell? ⟨g, j * 5 + 4, none⟩ = some e) ∧ (∀ i, w.frozen? ⟨g, i, none⟩ = false) ∧
      ∀ (w' : World) (hi' : Nat) (a b c d e : Value), Ext w w' → g < lo → ¬ S0 g → TV w' xs[j] hi hi' [a, b, c, d, e] → lo ≤ hi → MixT EVal TVs (set5 w' g (j * 5) a b c d e) base T lo hi' S0 v xs (j + 1) := by
  obtain ⟨g, cap, c0, h1, h2, h3, h4, h5, h6, h7⟩ := h.next EVal.ok TVs.okR hj
  obtain ⟨lv, ov, rfl, hl, ho⟩ := rdV_iff.1 h4
  refine ⟨g, cap, _, _, _, _, _, h1, h2, h3, ⟨_, _, rfl, hl, ho⟩, ⟨h5 0 _ rfl, h5 1 _ rfl, h5 2 _ rfl, h5 3 _ rfl, h5 4 _ rfl⟩, h6, fun w' hi' a b c d e hE hg hS0 hv hlh => ?_⟩
  refine h7 w' _ [a, b, c, d, e] hi' hE (set5_keep _ _ _ _ _ _ _ _) (by omega) hS0 rfl (fun cs hcs => ?_) fun cur hb hle _ => set5_blk hb _ _ _ _ _ _ hle
  exact TVs_snoc hcs (TV_keep (set5_keep _ _ _ _ _ _ _ _) _ _ _ _ (fun q hq _ e => by omega) hv)
theorem MixT.nextF {xs : List F} (h : MixT EField TFs w base T lo hi S0 v xs j) (hj : j < xs.length) :
    ∃ g cap a b c d e, v = .slice (some ⟨g, 0, none⟩) xs.length cap ∧ base ≤ g ∧ g < w.heap.size ∧ VAt w S0 (.agg #[a, b, c, d, e]) xs[j].v ∧
      (w.cell? ⟨g, j * 6 + 1, none⟩ = some a ∧ w.cell? ⟨g, j * 6 + 2, none⟩ = some b ∧ w.cell? ⟨g, j * 6 + 3, none⟩ = some c ∧ w.cell? ⟨g, j * 6 + 4, none⟩ = some d ∧ w.cell? ⟨g, j * 6 + 5, none⟩ = some e) ∧ (∀ i, w.frozen? ⟨g, i, none⟩ = false) ∧
      ∀ (w' : World) (hi' : Nat) (a b c d e : Value), Ext w w' → g < lo → ¬ S0 g → TV w' xs[j].v hi hi' [a, b, c, d, e] → lo ≤ hi → MixT EField TFs (set5 w' g (j * 6 + 1) a b c d e) base T lo hi' S0 v xs (j + 1) := by
  obtain ⟨g, cap, c0, h1, h2, h3, h4, h5, h6, h7⟩ := h.next EField.ok TFs.okR hj
  obtain ⟨c1, rfl, h41⟩ := rdF_iff.1 h4
  obtain ⟨lv, ov, rfl, hl, ho⟩ := rdV_iff.1 h41
  refine ⟨g, cap, _, _, _, _, _, h1, h2, h3, ⟨_, _, rfl, hl, ho⟩, ⟨h5 1 _ rfl, h5 2 _ rfl, h5 3 _ rfl, h5 4 _ rfl, h5 5 _ rfl⟩, h6, fun w' hi' a b c d e hE hg hS0 hv hlh => ?_⟩
  refine h7 w' _ (.string xs[j].key :: [a, b, c, d, e]) hi' hE (set5_keep _ _ _ _ _ _ _ _) (by omega) hS0 rfl (fun cs hcs => ?_) fun cur hb hle hc0 => ?_
  · refine TFs_snoc hcs ?_
    have : xs[j] = .mk xs[j].key xs[j].v := by cases xs[j]; rfl
    rw [this, TF]
    exact ⟨_, rfl, TV_keep (set5_keep _ _ _ _ _ _ _ _) _ _ _ _ (fun q hq _ e => by omega) hv⟩
  · have hle' : j * 6 + 6 ≤ cur.size := hle
    obtain ⟨cur', hb', he'⟩ := set5_blk hb (j * 6 + 1) a b c d e (by omega)
    refine ⟨cur', hb', ?_⟩
    have hc0' : .string xs[j].key :: [U8 xs[j].v.kind, .int .i64 xs[j].v.n, .string xs[j].v.s, lv, ov] = (cur.toList.drop (j * 6)).take 6 := hc0
    have hg : cur.toList[j * 6]? = some (.string xs[j].key) := by
      have : ((cur.toList.drop (j * 6)).take 6)[0]? = some (.string xs[j].key) := by rw [← hc0']; rfl
      rw [List.getElem?_take_of_lt (by omega), List.getElem?_drop] at this
      simpa using this
    rw [he']
    show cur.toList.take (j * 6 + 1) ++ [a, b, c, d, e] ++ cur.toList.drop (j * 6 + 6) = cur.toList.take (j * 6) ++ (.string xs[j].key :: [a, b, c, d, e]) ++ cur.toList.drop (j * 6 + 6)
    have : cur.toList.take (j * 6 + 1) = cur.toList.take (j * 6) ++ [.string xs[j].key] := by
      rw [List.take_add_one, hg]; rfl
    rw [this]; simp
end

/-- A copy under way: the boxed value, the result's box, the two rows. -/
structure CopyLT (w wr : World) (S : BS) (bx b1 B m1 m2 : Nat) (k0 n0 s0 lv ov : Value) (vl : List V) (vo : List F) (j i : Nat) : Prop where
  ext : Ext w wr
  size : B ≤ wr.heap.size
  h1 : B ≤ m1
  h2 : m1 ≤ m2
  h3 : m2 ≤ wr.heap.size
  box : Blk wr bx TVAL #[k0, n0, s0, lv, ov]
  res : Blk wr (bx + 1) TVAL #[.int .u8 0, .int .i64 0, .string ⟨#[]⟩, .slice none 0 0, .slice none 0 0]
  l : MixT EVal TVs wr b1 TVAL B m1 S lv vl j
  o : MixT EField TFs wr b1 TFIELD m1 m2 S ov vo i
  ne : ∀ g, lv.ownBlock = some g → ov.ownBlock ≠ some g
  hb1 : bx + 2 ≤ b1
  hbx : w.heap.size = bx
  hS : ∀ q, S q → q < w.heap.size
  gl : ∀ g, lv.ownBlock = some g → g < B
  go : ∀ g, ov.ownBlock = some g → g < B

section
variable {w wr : World} {S : BS} {bx b1 B m1 m2 m' : Nat} {k0 n0 s0 lv ov : Value} {vl : List V} {vo : List F} {j i : Nat}
theorem CopyLT.step_ext {w' : World} (h : CopyLT w wr S bx b1 B m1 m2 k0 n0 s0 lv ov vl vo j i) (he : Ext wr w') : CopyLT w w' S bx b1 B m1 m2 k0 n0 s0 lv ov vl vo j i :=
  { h with ext := h.ext.ext he, size := Nat.le_trans h.size he.size, h3 := Nat.le_trans h.h3 he.size, box := h.box.keep he id, res := h.res.keep he id, l := h.l.ext EVal.ok TVs.okR he, o := h.o.ext EField.ok TFs.okR he }
theorem CopyLT.stepL {g cap : Nat} (h : CopyLT w wr S bx b1 B m1 m1 k0 n0 s0 lv ov vl vo j 0) {a b c d e : Value} (hlv : lv = .slice (some ⟨g, 0, none⟩) vl.length cap) (hm1 : m1 ≤ m') (hm2 : m' ≤ wr.heap.size) (hm : MixT EVal TVs (set5 wr g (j * 5) a b c d e) b1 TVAL B m' S lv vl (j + 1)) :
    CopyLT w (set5 wr g (j * 5) a b c d e) S bx b1 B m' m' k0 n0 s0 lv ov vl vo (j + 1) 0 := by
  have hk := set5_keep wr g (j * 5) a b c d e
  have hg : lv.ownBlock = some g := by rw [hlv]; rfl
  have h1 := h.l.lt hg
  have h2 := h.gl g hg
  have h3 := h.hb1
  have h4 := h.hbx
  have h5 := h.h1
  exact { h with
    ext := h.ext.trans hk (fun q hq e => by omega), size := Nat.le_trans h.size hk.size, box := h.box.keep hk (by omega), res := h.res.keep hk (by omega), l := hm
    h1 := by omega, h2 := Nat.le_refl _, h3 := Nat.le_trans hm2 hk.size
    o := ((h.o.again TFs.okR (Nat.le_refl m')).keep EField.ok TFs.okR hk (fun q hq hq2 e => by omega) (fun q hq e => by have := h.hS q hq; omega) (fun q hq e => by subst e; exact h.ne _ hg hq)) }
theorem CopyLT.stepO {g cap : Nat} (h : CopyLT w wr S bx b1 B m1 m2 k0 n0 s0 lv ov vl vo j i) {a b c d e : Value} (hov : ov = .slice (some ⟨g, 0, none⟩) vo.length cap) (hm1 : m2 ≤ m') (hm2 : m' ≤ wr.heap.size) (hm : MixT EField TFs (set5 wr g (i * 6 + 1) a b c d e) b1 TFIELD m1 m' S ov vo (i + 1)) :
    CopyLT w (set5 wr g (i * 6 + 1) a b c d e) S bx b1 B m1 m' k0 n0 s0 lv ov vl vo j (i + 1) := by
  have hk := set5_keep wr g (i * 6 + 1) a b c d e
  have hg : ov.ownBlock = some g := by rw [hov]; rfl
  have h1 := h.o.lt hg
  have h2 := h.go g hg
  have h3 := h.hb1
  have h4 := h.hbx
  have h5 := h.h2
  exact { h with
    ext := h.ext.trans hk (fun q hq e => by omega), size := Nat.le_trans h.size hk.size, box := h.box.keep hk (by omega), res := h.res.keep hk (by omega), o := hm
    h2 := by omega, h3 := Nat.le_trans hm2 hk.size
    l := h.l.keep EVal.ok TVs.okR hk (fun q hq hq2 e => by omega) (fun q hq e => by have := h.hS q hq; omega) (fun q hq e => by subst e; exact h.ne _ hq hg) }
end
end Go.Proofs.YtioplgfopillnaaDoor
