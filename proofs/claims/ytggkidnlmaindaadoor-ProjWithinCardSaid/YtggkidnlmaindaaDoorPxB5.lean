/- ValT, PathA, PathS: laid together. -/
import Derived.Test.YtggkidnlmaindaaDoorPxB4
import Derived.Test.YtggkidnlmaindaaDoorPxB2
import Derived.Laws.Cover1
import Derived.RegionTactic
import Derived.ChangeAlike
set_option linter.unusedSimpArgs false
set_option linter.unusedVariables false
set_option maxHeartbeats 25600000
set_option maxRecDepth 20000
namespace Go.Proofs.YtggkidnlmaindaaDoor
open Go.RowKit
def RowB (w : World) (a b : Nat) (T : TypeId) (sz : Nat) (v : Value) (n : Nat) (cs : List Value) : Prop :=
 cs.length = n * sz ∧ ((v = .slice none 0 0 ∧ n = 0) ∨ ∃ g cap cur, v = .slice (some ⟨g, 0, none⟩) n cap ∧ a ≤ g ∧ g < b ∧ Blk w g T cur ∧ n ≤ cap ∧ cap ≤ maxLen ∧ cur.size = cap * sz ∧ cur.toList.take (n * sz) = cs)
section
variable {Fr : Nat → Prop} {w w' : World} {a b a' b' : Nat} {T : TypeId} {sz n : Nat} {v : Value} {cs : List Value}
theorem RowB.keep (h : RowB w a b T sz v n cs) (hk : Keep Fr w w') (hF : ∀ q, a ≤ q → q < b → ¬ Fr q) : RowB w' a b T sz v n cs := by
 obtain ⟨h0, h | ⟨g, cap, cur, e, h1, h2, h3, h4⟩⟩ := h
 ·exact ⟨h0, .inl h⟩
 ·exact ⟨h0, .inr ⟨g, cap, cur, e, h1, h2, h3.keep hk (hF g h1 h2), h4⟩⟩
theorem RowB.keepB (h : RowB w a b T sz v n cs) (hk : Keep Fr w w') (hF : ∀ q cap, v = .slice (some ⟨q, 0, none⟩) n cap → a ≤ q → q < b → ¬ Fr q) : RowB w' a b T sz v n cs := by
 obtain ⟨h0, h | ⟨g, cap, cur, e, h1, h2, h3, h4⟩⟩ := h
 ·exact ⟨h0, .inl h⟩
 ·exact ⟨h0, .inr ⟨g, cap, cur, e, h1, h2, h3.keep hk (hF g cap e h1 h2), h4⟩⟩
theorem RowB.ne_ {T' : TypeId} {sz' n' : Nat} {v' : Value} {cs' : List Value} (h : RowB w a b T sz v n cs) (h' : RowB w a' b' T' sz' v' n' cs') (hne : T ≠ T') : ∀ g cap g' cap', v = .slice (some ⟨g, 0, none⟩) n cap → v' = .slice (some ⟨g', 0, none⟩) n' cap' → g ≠ g' := by
 intro g cap g' cap' e e'
 obtain ⟨h0, ⟨rfl, _⟩ | ⟨g1, cap1, cur, rfl, h1, h2, h3, h4⟩⟩ := h
 ·cases e
 obtain ⟨h0', ⟨rfl, _⟩ | ⟨g2, cap2, cur2, rfl, h1', h2', h3', h4'⟩⟩ := h'
 ·cases e'
 injection e with e; injection e with e; injection e with e
 injection e' with e'; injection e' with e'; injection e' with e'
 subst e e'
 exact h3.ne_ h3' hne
theorem RowB.mono (h : RowB w a b T sz v n cs) (ha : a' ≤ a) (hb : b ≤ b') : RowB w a' b' T sz v n cs := by
 obtain ⟨h0, h | ⟨g, cap, cur, e, h1, h2, h3, h4⟩⟩ := h
 ·exact ⟨h0, .inl h⟩
 ·exact ⟨h0, .inr ⟨g, cap, cur, e, by omega, by omega, h3, h4⟩⟩
theorem RowB.shape (h : RowB w a b T sz v n cs) : ∃ A c, v = .slice A n c ∧ n ≤ c ∧ c ≤ maxLen := by
 obtain ⟨h0, ⟨rfl, rfl⟩ | ⟨g, cap, cur, rfl, h1, h2, h3, h4, h5, _⟩⟩ := h
 ·exact ⟨none, 0, rfl, by simp, by simp [maxLen]⟩
 ·exact ⟨_, cap, rfl, h4, h5⟩
theorem RowB.rowS (h : RowB w a b T sz v n cs) {S : BS} (hS : ∀ q, a ≤ q → q < b → S q) : RowS w S sz v n cs := by
 obtain ⟨h0, ⟨rfl, rfl⟩ | ⟨g, cap, cur, rfl, h1, h2, h3, h4, h5, h6, h7⟩⟩ := h
 ·exact ⟨h0, none, 0, rfl, by simp, by simp [maxLen], fun h => by simp at h⟩
 ·refine ⟨h0, _, cap, rfl, h4, h5, fun _ => ⟨g, 0, rfl, hS g h1 h2, h3.lt, fun j u hu => ?_⟩⟩
  rw [Nat.zero_add, h3.cell]
  have hj := (List.getElem?_eq_some_iff.1 hu).1
  rw [← h7, List.getElem?_take_of_lt (by omega)] at hu
  simpa using hu
theorem RowB.form (h : RowB w a b T sz v n cs) (hn : 0 < n) : ∃ g cap, v = .slice (some ⟨g, 0, none⟩) n cap ∧ a ≤ g ∧ g < b ∧ g < w.heap.size ∧ (∀ i, w.frozen? ⟨g, i, none⟩ = false) ∧ ∀ j u, cs[j]? = some u → w.cell? ⟨g, j, none⟩ = some u := by
 obtain ⟨h0, ⟨rfl, rfl⟩ | ⟨g, cap, cur, rfl, h1, h2, h3, h4, h5, h6, h7⟩⟩ := h
 ·omega
 ·refine ⟨g, cap, rfl, h1, h2, h3.lt, fun i => h3.frozen i, fun j u hu => ?_⟩
  rw [h3.cell]
  have hj := (List.getElem?_eq_some_iff.1 hu).1
  rw [← h7, List.getElem?_take_of_lt (by omega)] at hu
  simpa using hu
theorem RowB.turn (h : RowB w a b T sz v n cs) {S : BS} (hS : ∀ q, a ≤ q → q < b → S q) (hsz : w.heap.size ≤ w'.heap.size) {cs' : List Value} (hl : cs'.length = cs.length)
  (hc : ∀ g cap, v = .slice (some ⟨g, 0, none⟩) n cap → ∀ j u, cs'[j]? = some u → w'.cell? ⟨g, j, none⟩ = some u) : RowS w' S sz v n cs' := by
 obtain ⟨h0, ⟨rfl, rfl⟩ | ⟨g, cap, cur, rfl, h1, h2, h3, h4, h5, h6, h7⟩⟩ := h
 ·exact ⟨by omega, none, 0, rfl, by simp, by simp [maxLen], fun h => by simp at h⟩
 ·exact ⟨by omega, _, cap, rfl, h4, h5, fun _ => ⟨g, 0, rfl, hS g h1 h2, Nat.lt_of_lt_of_le h3.lt hsz, fun j u hu => by rw [Nat.zero_add]; exact hc g cap rfl j u hu⟩⟩
end
mutual
def TV (w : World) : V → Nat → Nat → List Value → Prop
 | .mk k n s l o, a, b, cs => ∃ lv ov ls os a1 a2, cs = [U8 k, .int .i64 n, .string s, lv, ov] ∧ a ≤ a1 ∧ RowB w a a1 TVAL 5 lv l.length ls ∧ RowB w a a1 TFIELD 6 ov o.length os ∧ TVs w l a1 a2 ls ∧ TFs w o a2 b os
def TVs (w : World) : List V → Nat → Nat → List Value → Prop
 | [], a, b, cs => cs = [] ∧ a ≤ b
 | v :: vs, a, b, cs => ∃ c0 c1 m, cs = c0 ++ c1 ∧ TV w v a m c0 ∧ TVs w vs m b c1
def TF (w : World) : F → Nat → Nat → List Value → Prop
 | .mk k v, a, b, cs => ∃ c0, cs = .string k :: c0 ∧ TV w v a b c0
def TFs (w : World) : List F → Nat → Nat → List Value → Prop
 | [], a, b, cs => cs = [] ∧ a ≤ b
 | f :: fs, a, b, cs => ∃ c0 c1 m, cs = c0 ++ c1 ∧ TF w f a m c0 ∧ TFs w fs m b c1
end
mutual
theorem TV_le {w : World} : ∀ (v : V) (a b : Nat) (cs : List Value), TV w v a b cs → a ≤ b ∧ cs.length = 5
 | .mk k n s l o, a, b, cs, h => by
  rw [TV] at h
  obtain ⟨lv, ov, ls, os, a1, a2, rfl, h1, _, _, h3, h4⟩ := h
  have := (TVs_le l a1 a2 ls h3).1
  have := (TFs_le o a2 b os h4).1
  exact ⟨by omega, rfl⟩
theorem TVs_le {w : World} : ∀ (l : List V) (a b : Nat) (cs : List Value), TVs w l a b cs → a ≤ b ∧ cs.length = l.length * 5
 | [], a, b, cs, h => by rw [TVs] at h; obtain ⟨rfl, h⟩ := h; exact ⟨h, rfl⟩
 | v :: vs, a, b, cs, h => by
  rw [TVs] at h
  obtain ⟨c0, c1, m, rfl, h1, h2⟩ := h
  have h3 := TV_le v a m c0 h1
  have h4 := TVs_le vs m b c1 h2
  exact ⟨by omega, by rw [List.length_append, List.length_cons, h3.2, h4.2]; omega⟩
theorem TF_le {w : World} : ∀ (f : F) (a b : Nat) (cs : List Value), TF w f a b cs → a ≤ b ∧ cs.length = 6
 | .mk k v, a, b, cs, h => by
  rw [TF] at h
  obtain ⟨c0, rfl, h⟩ := h
  have := TV_le v a b c0 h
  exact ⟨this.1, by rw [List.length_cons, this.2]⟩
theorem TFs_le {w : World} : ∀ (l : List F) (a b : Nat) (cs : List Value), TFs w l a b cs → a ≤ b ∧ cs.length = l.length * 6
 | [], a, b, cs, h => by rw [TFs] at h; obtain ⟨rfl, h⟩ := h; exact ⟨h, rfl⟩
 | v :: vs, a, b, cs, h => by
  rw [TFs] at h
  obtain ⟨c0, c1, m, rfl, h1, h2⟩ := h
  have h3 := TF_le v a m c0 h1
  have h4 := TFs_le vs m b c1 h2
  exact ⟨by omega, by rw [List.length_append, List.length_cons, h3.2, h4.2]; omega⟩
end
mutual
theorem TV_keep {Fr : Nat → Prop} {w w' : World} (hk : Keep Fr w w') : ∀ (v : V) (a b : Nat) (cs : List Value), (∀ q, a ≤ q → q < b → ¬ Fr q) → TV w v a b cs → TV w' v a b cs
 | .mk k n s l o, a, b, cs, hF, h => by
  rw [TV] at h ⊢
  obtain ⟨lv, ov, ls, os, a1, a2, rfl, h1, h3, h4, h5, h6⟩ := h
  have := (TVs_le l a1 a2 ls h5).1
  have := (TFs_le o a2 b os h6).1
  exact ⟨lv, ov, ls, os, a1, a2, rfl, h1, h3.keep hk (fun q _ _ => hF q (by omega) (by omega)), h4.keep hk (fun q _ _ => hF q (by omega) (by omega)),
   TVs_keep hk l a1 a2 ls (fun q _ _ => hF q (by omega) (by omega)) h5, TFs_keep hk o a2 b os (fun q _ _ => hF q (by omega) (by omega)) h6⟩
theorem TVs_keep {Fr : Nat → Prop} {w w' : World} (hk : Keep Fr w w') : ∀ (l : List V) (a b : Nat) (cs : List Value), (∀ q, a ≤ q → q < b → ¬ Fr q) → TVs w l a b cs → TVs w' l a b cs
 | [], a, b, cs, hF, h => by rw [TVs] at h ⊢; exact h
 | v :: vs, a, b, cs, hF, h => by
  rw [TVs] at h ⊢
  obtain ⟨c0, c1, m, rfl, h1, h2⟩ := h
  have := (TV_le v a m c0 h1).1
  have := (TVs_le vs m b c1 h2).1
  exact ⟨c0, c1, m, rfl, TV_keep hk v a m c0 (fun q _ _ => hF q (by omega) (by omega)) h1, TVs_keep hk vs m b c1 (fun q _ _ => hF q (by omega) (by omega)) h2⟩
theorem TF_keep {Fr : Nat → Prop} {w w' : World} (hk : Keep Fr w w') : ∀ (f : F) (a b : Nat) (cs : List Value), (∀ q, a ≤ q → q < b → ¬ Fr q) → TF w f a b cs → TF w' f a b cs
 | .mk k v, a, b, cs, hF, h => by
  rw [TF] at h ⊢
  obtain ⟨c0, rfl, h⟩ := h
  exact ⟨c0, rfl, TV_keep hk v a b c0 hF h⟩
theorem TFs_keep {Fr : Nat → Prop} {w w' : World} (hk : Keep Fr w w') : ∀ (l : List F) (a b : Nat) (cs : List Value), (∀ q, a ≤ q → q < b → ¬ Fr q) → TFs w l a b cs → TFs w' l a b cs
 | [], a, b, cs, hF, h => by rw [TFs] at h ⊢; exact h
 | v :: vs, a, b, cs, hF, h => by
  rw [TFs] at h ⊢
  obtain ⟨c0, c1, m, rfl, h1, h2⟩ := h
  have := (TF_le v a m c0 h1).1
  have := (TFs_le vs m b c1 h2).1
  exact ⟨c0, c1, m, rfl, TF_keep hk v a m c0 (fun q _ _ => hF q (by omega) (by omega)) h1, TFs_keep hk vs m b c1 (fun q _ _ => hF q (by omega) (by omega)) h2⟩
end
mutual
theorem TV_rd {w : World} {S : BS} : ∀ (v : V) (a b : Nat) (cs : List Value), (∀ q, a ≤ q → q < b → S q) → TV w v a b cs → rdV w S v cs
 | .mk k n s l o, a, b, cs, hS, h => by
  rw [TV] at h
  rw [rdV]
  obtain ⟨lv, ov, ls, os, a1, a2, rfl, h1, h3, h4, h5, h6⟩ := h
  have := (TVs_le l a1 a2 ls h5).1
  have := (TFs_le o a2 b os h6).1
  exact ⟨lv, ov, ls, os, rfl, ⟨h3.rowS (fun q _ _ => hS q (by omega) (by omega)), TVs_rd l a1 a2 ls (fun q _ _ => hS q (by omega) (by omega)) h5⟩, h4.rowS (fun q _ _ => hS q (by omega) (by omega)), TFs_rd o a2 b os (fun q _ _ => hS q (by omega) (by omega)) h6⟩
theorem TVs_rd {w : World} {S : BS} : ∀ (l : List V) (a b : Nat) (cs : List Value), (∀ q, a ≤ q → q < b → S q) → TVs w l a b cs → rdVs w S l cs
 | [], a, b, cs, hS, h => by rw [TVs] at h; rw [rdVs]; exact h.1
 | v :: vs, a, b, cs, hS, h => by
  rw [TVs] at h
  rw [rdVs]
  obtain ⟨c0, c1, m, rfl, h1, h2⟩ := h
  have := (TV_le v a m c0 h1).1
  have := (TVs_le vs m b c1 h2).1
  exact ⟨c0, c1, rfl, TV_rd v a m c0 (fun q _ _ => hS q (by omega) (by omega)) h1, TVs_rd vs m b c1 (fun q _ _ => hS q (by omega) (by omega)) h2⟩
theorem TF_rd {w : World} {S : BS} : ∀ (f : F) (a b : Nat) (cs : List Value), (∀ q, a ≤ q → q < b → S q) → TF w f a b cs → rdF w S f cs
 | .mk k v, a, b, cs, hS, h => by
  rw [TF] at h
  rw [rdF]
  obtain ⟨c0, rfl, h⟩ := h
  exact ⟨c0, rfl, TV_rd v a b c0 hS h⟩
theorem TFs_rd {w : World} {S : BS} : ∀ (l : List F) (a b : Nat) (cs : List Value), (∀ q, a ≤ q → q < b → S q) → TFs w l a b cs → rdFs w S l cs
 | [], a, b, cs, hS, h => by rw [TFs] at h; rw [rdFs]; exact h.1
 | v :: vs, a, b, cs, hS, h => by
  rw [TFs] at h
  rw [rdFs]
  obtain ⟨c0, c1, m, rfl, h1, h2⟩ := h
  have := (TF_le v a m c0 h1).1
  have := (TFs_le vs m b c1 h2).1
  exact ⟨c0, c1, rfl, TF_rd v a m c0 (fun q _ _ => hS q (by omega) (by omega)) h1, TFs_rd vs m b c1 (fun q _ _ => hS q (by omega) (by omega)) h2⟩
end
theorem TV_mono {w : World} : ∀ {v : V} {a b a' b' : Nat} {cs : List Value}, TV w v a b cs → a' ≤ a → b ≤ b' → TV w v a' b' cs
 | .mk k n s l o, a, b, a', b', cs, h, ha, hb => by
  rw [TV] at h ⊢
  obtain ⟨lv, ov, ls, os, a1, a2, rfl, h1, h3, h4, h5, h6⟩ := h
  refine ⟨lv, ov, ls, os, a1, a2, rfl, by omega, h3.mono ha (Nat.le_refl _), h4.mono ha (Nat.le_refl _), h5, ?_⟩
  revert h6
  clear h1 h3 h4 h5
  induction o generalizing a2 os with
  | nil => intro h; rw [TFs] at h ⊢; exact ⟨h.1, by omega⟩
  | cons f fs ih =>
   intro h
   rw [TFs] at h ⊢
   obtain ⟨c0, c1, m, rfl, h1, h2⟩ := h
   exact ⟨c0, c1, m, rfl, h1, ih _ _ h2⟩
theorem TVs_snoc {w : World} : ∀ {l : List V} {a m b : Nat} {cs c0 : List Value} {x : V}, TVs w l a m cs → TV w x m b c0 → TVs w (l ++ [x]) a b (cs ++ c0)
 | [], a, m, b, cs, c0, x, h, hx => by
  rw [TVs] at h
  obtain ⟨rfl, h⟩ := h
  rw [List.nil_append, TVs]
  exact ⟨c0, [], b, by simp, TV_mono hx h (Nat.le_refl _), by rw [TVs]; exact ⟨rfl, Nat.le_refl _⟩⟩
 | v :: vs, a, m, b, cs, c0, x, h, hx => by
  rw [TVs] at h
  obtain ⟨c1, c2, m', rfl, h1, h2⟩ := h
  rw [List.cons_append, TVs]
  exact ⟨c1, c2 ++ c0, m', by rw [List.append_assoc], h1, TVs_snoc h2 hx⟩
theorem TF_mono {w : World} {f : F} {a b a' b' : Nat} {cs : List Value} (h : TF w f a b cs) (ha : a' ≤ a) (hb : b ≤ b') : TF w f a' b' cs := by
 cases f with
 | mk k v =>
  rw [TF] at h ⊢
  obtain ⟨c0, e, h⟩ := h
  exact ⟨c0, e, TV_mono h ha hb⟩
theorem TFs_snoc {w : World} : ∀ {l : List F} {a m b : Nat} {cs c0 : List Value} {x : F}, TFs w l a m cs → TF w x m b c0 → TFs w (l ++ [x]) a b (cs ++ c0)
 | [], a, m, b, cs, c0, x, h, hx => by
  rw [TFs] at h
  obtain ⟨rfl, h⟩ := h
  rw [List.nil_append, TFs]
  exact ⟨c0, [], b, by simp, TF_mono hx h (Nat.le_refl _), by rw [TFs]; exact ⟨rfl, Nat.le_refl _⟩⟩
 | v :: vs, a, m, b, cs, c0, x, h, hx => by
  rw [TFs] at h
  obtain ⟨c1, c2, m', rfl, h1, h2⟩ := h
  rw [List.cons_append, TFs]
  exact ⟨c1, c2 ++ c0, m', by rw [List.append_assoc], h1, TFs_snoc h2 hx⟩
theorem TVs_hole {w : World} : ∀ {l : List V} {a b : Nat} {cs : List Value}, TVs w l a b cs → ∀ (i : Nat) (hi : i < l.length), ∃ ai bi, a ≤ ai ∧ ai ≤ bi ∧ bi ≤ b ∧ TV w l[i] ai bi ((cs.drop (i * 5)).take 5) ∧
  ∀ (w' : World) (Fr : Nat → Prop) (S : BS) (x : V) (c' : List Value), Keep Fr w w' → (∀ q, a ≤ q → q < b → (q < ai ∨ bi ≤ q) → ¬ Fr q) → (∀ q, a ≤ q → q < b → S q) → rdV w' S x c' →
   rdVs w' S (l.set i x) (cs.take (i * 5) ++ c' ++ cs.drop (i * 5 + 5))
 | [], a, b, cs, h, i, hi => by simp at hi
 | v :: vs, a, b, cs, h, 0, hi => by
  rw [TVs] at h
  obtain ⟨c0, c1, m, rfl, h1, h2⟩ := h
  have h3 := TV_le _ _ _ _ h1
  have h4 := TVs_le _ _ _ _ h2
  refine ⟨a, m, Nat.le_refl _, h3.1, h4.1, ?_, fun w' Fr S x c' hk hF hS hx => ?_⟩
  ·simpa [← h3.2] using h1
  ·have e : (c0 ++ c1).drop 5 = c1 := by rw [← h3.2]; simp
   simp only [Nat.zero_mul, List.take_zero, List.nil_append, Nat.zero_add, e, List.set_cons_zero]
   rw [rdVs]
   exact ⟨c', c1, rfl, hx, TVs_rd _ _ _ _ (fun q _ _ => hS q (by omega) (by omega)) (TVs_keep hk _ _ _ _ (fun q _ _ => hF q (by omega) (by omega) (by omega)) h2)⟩
 | v :: vs, a, b, cs, h, i + 1, hi => by
  rw [TVs] at h
  obtain ⟨c0, c1, m, rfl, h1, h2⟩ := h
  have h3 := TV_le _ _ _ _ h1
  have h4 := TVs_le _ _ _ _ h2
  obtain ⟨ai, bi, g1, g2, g3, g4, g5⟩ := TVs_hole h2 i (by simpa using hi)
  refine ⟨ai, bi, by omega, g2, g3, ?_, fun w' Fr S x c' hk hF hS hx => ?_⟩
  ·have e : (c0 ++ c1).drop ((i + 1) * 5) = c1.drop (i * 5) := by rw [show (i + 1) * 5 = c0.length + i * 5 from by omega, ← List.drop_drop]; simp
   rw [e]
   exact g4
  ·have e : (c0 ++ c1).drop ((i + 1) * 5 + 5) = c1.drop (i * 5 + 5) := by rw [show (i + 1) * 5 + 5 = c0.length + (i * 5 + 5) from by omega, ← List.drop_drop]; simp
   have e2 : (c0 ++ c1).take ((i + 1) * 5) = c0 ++ c1.take (i * 5) := by rw [show (i + 1) * 5 = c0.length + i * 5 from by omega, List.take_length_add_append]
   rw [e, e2, List.set_cons_succ, rdVs]
   exact ⟨c0, c1.take (i * 5) ++ c' ++ c1.drop (i * 5 + 5), by simp, TV_rd _ _ _ _ (fun q _ _ => hS q (by omega) (by omega)) (TV_keep hk _ _ _ _ (fun q _ _ => hF q (by omega) (by omega) (by omega)) h1), g5 w' Fr S x c' hk (fun q _ _ => hF q (by omega) (by omega)) (fun q _ _ => hS q (by omega) (by omega)) hx⟩
theorem TFs_hole {w : World} : ∀ {l : List F} {a b : Nat} {cs : List Value}, TFs w l a b cs → ∀ (i : Nat) (hi : i < l.length), ∃ ai bi, a ≤ ai ∧ ai ≤ bi ∧ bi ≤ b ∧ TV w l[i].v ai bi ((cs.drop (i * 6 + 1)).take 5) ∧ cs[i * 6]? = some (.string l[i].key) ∧
  ∀ (w' : World) (Fr : Nat → Prop) (S : BS) (x : V) (c' : List Value), Keep Fr w w' → (∀ q, a ≤ q → q < b → (q < ai ∨ bi ≤ q) → ¬ Fr q) → (∀ q, a ≤ q → q < b → S q) → rdV w' S x c' →
   rdFs w' S (l.set i (.mk l[i].key x)) (cs.take (i * 6 + 1) ++ c' ++ cs.drop (i * 6 + 6))
 | [], a, b, cs, h, i, hi => by simp at hi
 | .mk k v :: vs, a, b, cs, h, 0, hi => by
  rw [TFs] at h
  obtain ⟨c0, c1, m, rfl, h1, h2⟩ := h
  have h3 := TF_le _ _ _ _ h1
  have h4 := TFs_le _ _ _ _ h2
  rw [TF] at h1
  obtain ⟨cv, rfl, h1⟩ := h1
  have h5 := TV_le _ _ _ _ h1
  refine ⟨a, m, Nat.le_refl _, h3.1, h4.1, ?_, rfl, fun w' Fr S x c' hk hF hS hx => ?_⟩
  ·show TV w v a m ((cv ++ c1).take 5)
   rw [← h5.2, List.take_left']
   ·exact h1
   ·rfl
  ·have e : (.string k :: cv ++ c1).drop 6 = c1 := by show (cv ++ c1).drop 5 = c1; rw [← h5.2]; simp
   simp only [Nat.zero_mul, Nat.zero_add, e, List.set_cons_zero]
   rw [rdFs]
   refine ⟨.string k :: c', c1, rfl, ?_, TFs_rd _ _ _ _ (fun q _ _ => hS q (by omega) (by omega)) (TFs_keep hk _ _ _ _ (fun q _ _ => hF q (by omega) (by omega) (by omega)) h2)⟩
   rw [rdF]
   exact ⟨c', rfl, hx⟩
 | v :: vs, a, b, cs, h, i + 1, hi => by
  rw [TFs] at h
  obtain ⟨c0, c1, m, rfl, h1, h2⟩ := h
  have h3 := TF_le _ _ _ _ h1
  have h4 := TFs_le _ _ _ _ h2
  obtain ⟨ai, bi, g1, g2, g3, g4, g6, g5⟩ := TFs_hole h2 i (by simpa using hi)
  refine ⟨ai, bi, by omega, g2, g3, ?_, ?_, fun w' Fr S x c' hk hF hS hx => ?_⟩
  ·have e : (c0 ++ c1).drop ((i + 1) * 6 + 1) = c1.drop (i * 6 + 1) := by rw [show (i + 1) * 6 + 1 = c0.length + (i * 6 + 1) from by omega, ← List.drop_drop]; simp
   rw [e]
   exact g4
  ·rw [List.getElem?_append_right (by omega), show (i + 1) * 6 - c0.length = i * 6 from by omega]
   exact g6
  ·have e : (c0 ++ c1).drop ((i + 1) * 6 + 6) = c1.drop (i * 6 + 6) := by rw [show (i + 1) * 6 + 6 = c0.length + (i * 6 + 6) from by omega, ← List.drop_drop]; simp
   have e2 : (c0 ++ c1).take ((i + 1) * 6 + 1) = c0 ++ c1.take (i * 6 + 1) := by rw [show (i + 1) * 6 + 1 = c0.length + (i * 6 + 1) from by omega, List.take_length_add_append]
   rw [e, e2, List.set_cons_succ, rdFs]
   exact ⟨c0, c1.take (i * 6 + 1) ++ c' ++ c1.drop (i * 6 + 6), by simp, TF_rd _ _ _ _ (fun q _ _ => hS q (by omega) (by omega)) (TF_keep hk _ _ _ _ (fun q _ _ => hF q (by omega) (by omega) (by omega)) h1), g5 w' Fr S x c' hk (fun q _ _ => hF q (by omega) (by omega)) (fun q _ _ => hS q (by omega) (by omega)) hx⟩
inductive Loc where
 | l (i : Nat)
 | o (k : Nat)
def V.put : V → Loc → V → V
 | .mk k n s l o, .l i, x => .mk k n s (l.set i x) o
 | .mk k n s l o, .o j, x => .mk k n s l (match o[j]? with | some f => o.set j (.mk f.key x) | none => o)
def V.child? : V → Loc → Option V
 | .mk _ _ _ l _, .l i => l[i]?
 | .mk _ _ _ _ o, .o j => o[j]?.map F.v
def At5 (w : World) (b off : Nat) (cs : List Value) : Prop := ∀ j u, cs[j]? = some u → w.cell? ⟨b, off + j, none⟩ = some u
def PtrT (w : World) (b off : Nat) (x : V) (a c : Nat) : Prop := ∃ cs, At5 w b off cs ∧ TV w x a c cs ∧ ¬ (a ≤ b ∧ b < c) ∧ ∀ i, w.frozen? ⟨b, i, none⟩ = false
def Hole (w : World) (S : BS) (rb roff b off : Nat) (f : V → V) (a c : Nat) : Prop :=
 ∀ (w' : World) (Fr : Nat → Prop) (cs : List Value) (x : V), Keep Fr w w' → (∀ k, k < w.heap.size → Fr k → (a ≤ k ∧ k < c) ∨ k = b) → (∀ i, (i < off ∨ off + 5 ≤ i) → w'.cell? ⟨b, i, none⟩ = w.cell? ⟨b, i, none⟩) → At5 w' b off cs → rdV w' S x cs →
  ∃ rcs, At5 w' rb roff rcs ∧ rdV w' S (f x) rcs
theorem Hole.start (w : World) (S : BS) (b off a c : Nat) : Hole w S b off b off id a c := fun w' Fr cs x _ _ _ h1 h2 => ⟨cs, h1, h2⟩
theorem PtrT.ext {w w' : World} {b off : Nat} {x : V} {a c : Nat} (h : PtrT w b off x a c) (he : Ext w w') : PtrT w' b off x a c := by
 obtain ⟨cs, h1, h2, h3, h4⟩ := h
 refine ⟨cs, fun j u hu => (he.cell (lt_of_cell (h1 j u hu)) id).trans (h1 j u hu), TV_keep he _ _ _ _ (fun _ _ _ x => x) h2, h3, fun i => ?_⟩
 have h5 := TV_le _ _ _ _ h2
 obtain ⟨u, hu⟩ : ∃ u, cs[0]? = some u := ⟨cs[0]'(by omega), by simp⟩
 have hb : b < w.heap.size := lt_of_cell (h1 0 u hu)
 exact (he.frozen (p := ⟨b, i, none⟩) hb id).trans (h4 i)
theorem Hole.ext {w w' : World} {S : BS} {rb roff b off : Nat} {f : V → V} {a c : Nat} (h : Hole w S rb roff b off f a c) (he : Ext w w') (hc : c ≤ w.heap.size) (hb : b < w.heap.size) : Hole w' S rb roff b off f a c := by
 intro w2 Fr cs x hk hF hi h1 h2
 have hkk : Keep (fun k => k < w.heap.size ∧ Fr k) w w2 := (Keep.mono (G := fun k => k < w.heap.size ∧ Fr k) he (fun _ _ x => x.elim)).trans hk (fun k hk' hf => ⟨hk', hf⟩)
 exact h w2 (fun k => k < w.heap.size ∧ Fr k) cs x hkk (fun k hk' hf => hF k (Nat.lt_of_lt_of_le hk' he.size) hf.2) (fun i hi' => (hi i hi').trans (he.cell hb id)) h1 h2
theorem Hole.stepL {w : World} {S : BS} {rb roff b off : Nat} {f : V → V} {a c : Nat} {k : UInt8} {n : Int} {s : ByteArray} {l : List V} {o : List F}
  (h : Hole w S rb roff b off f a c) (hp : PtrT w b off (.mk k n s l o) a c) (hS : ∀ q, a ≤ q → q < c → S q) (hc : c ≤ w.heap.size) (i : Nat) (hi : i < l.length) :
  ∃ g cap ai bi lv ov, At5 w b off [U8 k, .int .i64 n, .string s, lv, ov] ∧ lv = .slice (some ⟨g, 0, none⟩) l.length cap ∧ PtrT w g (0 + i * 5) l[i] ai bi ∧ a ≤ ai ∧ bi ≤ c ∧ (a ≤ g ∧ g < c) ∧
   Hole w S rb roff g (0 + i * 5) (fun x => f (V.put (.mk k n s l o) (.l i) x)) ai bi := by
 obtain ⟨cs, h1, h2, h3, h4⟩ := hp
 rw [TV] at h2
 obtain ⟨lv, ov, ls, os, a1, a2, rfl, g1, g3, g4, g5, g6⟩ := h2
 have hne := g3.ne_ g4 (by decide)
 have z5 := TVs_le _ _ _ _ g5
 have z6 := TFs_le _ _ _ _ g6
 obtain ⟨g, cap, rfl, f1, f2, f3, f4, f5⟩ := g3.form (by omega)
 obtain ⟨ai, bi, e1, e2, e3, e4, e5⟩ := TVs_hole g5 i hi
 have hl5 := (TV_le _ _ _ _ e4).2
 refine ⟨g, cap, ai, bi, _, ov, h1, rfl, ⟨_, fun j u hu => ?_, e4, by omega, f4⟩, by omega, by omega, by omega, ?_⟩
 ·have hj := (List.getElem?_eq_some_iff.1 hu).1
  rw [hl5] at hj
  rw [List.getElem?_take_of_lt hj, List.getElem?_drop] at hu
  rw [Nat.zero_add]
  exact f5 _ u hu
 ·intro w' Fr cs x hk hF hcell hat hrd
  have hbF : b < w.heap.size → ¬ Fr b := fun hb hf => by rcases hF b hb hf with h | h <;> omega
  have hb : b < w.heap.size := lt_of_cell (h1 0 _ rfl)
  have hlen5 := rdV_len hrd
  refine h w' Fr [U8 k, .int .i64 n, .string s, .slice (some ⟨g, 0, none⟩) l.length cap, ov] _ hk (fun q hq hf => ?_) (fun i _ => hk.cell (p := ⟨b, i, none⟩) hb (hbF hb)) (fun j u hu => (hk.cell (p := ⟨b, off + j, none⟩) hb (hbF hb)).trans (h1 j u hu)) ?_
  ·rcases hF q hq hf with h | h <;> left <;> omega
  ·show rdV w' S (.mk k n s (l.set i x) o) _
   rw [rdV]
   have hg5 := g3.1
   refine ⟨_, ov, ls.take (i * 5) ++ cs ++ ls.drop (i * 5 + 5), os, rfl, ⟨?_, ?_⟩, ?_, ?_⟩
   ·rw [List.length_set]
    refine g3.turn (fun q _ _ => hS q (by omega) (by omega)) hk.size (by simp only [List.length_append, List.length_take, List.length_drop]; omega) ?_
    intro g' cap' e j u hu
    injection e with e
    injection e with e
    injection e with e
    subst e
    rcases Nat.lt_or_ge j (i * 5) with hj | hj
    ·rw [List.append_assoc, List.getElem?_append_left (by simp only [List.length_take]; omega), List.getElem?_take_of_lt hj] at hu
     rw [hcell j (by omega)]
     exact f5 j u hu
    ·rcases Nat.lt_or_ge j (i * 5 + 5) with hj2 | hj2
     ·rw [List.getElem?_append_left (by simp only [List.length_append, List.length_take]; omega), List.getElem?_append_right (by simp only [List.length_take]; omega)] at hu
      simp only [List.length_take, Nat.min_eq_left (show i * 5 ≤ ls.length by omega)] at hu
      have := hat _ u hu
      rwa [show 0 + i * 5 + (j - i * 5) = j from by omega] at this
     ·rw [List.getElem?_append_right (by simp only [List.length_append, List.length_take]; omega), List.getElem?_drop] at hu
      simp only [List.length_append, List.length_take, Nat.min_eq_left (show i * 5 ≤ ls.length by omega), hlen5] at hu
      rw [show i * 5 + 5 + (j - (i * 5 + 5)) = j from by omega] at hu
      rw [hcell j (by omega)]
      exact f5 j u hu
   ·exact e5 w' (fun k => k < w.heap.size ∧ Fr k) S x cs (hk.mono fun q hq hf => ⟨hq, hf⟩) (fun q _ _ hor hf => by rcases hF q hf.1 hf.2 with h | h <;> omega) (fun q _ _ => hS q (by omega) (by omega)) hrd
   ·exact (g4.keepB (hk.mono (G := fun k => k < w.heap.size ∧ Fr k) fun q hq hf => ⟨hq, hf⟩) (fun q cap' e _ _ hf => by have := hne _ _ _ _ rfl e; rcases hF q hf.1 hf.2 with h | h <;> omega)).rowS (fun q _ _ => hS q (by omega) (by omega))
   ·exact TFs_rd _ _ _ _ (fun q _ _ => hS q (by omega) (by omega)) (TFs_keep (hk.mono (G := fun k => k < w.heap.size ∧ Fr k) fun q hq hf => ⟨hq, hf⟩) _ _ _ _ (fun q _ _ hf => by rcases hF q hf.1 hf.2 with h | h <;> omega) g6)
theorem Hole.stepO {w : World} {S : BS} {rb roff b off : Nat} {f : V → V} {a c : Nat} {k : UInt8} {n : Int} {s : ByteArray} {l : List V} {o : List F}
  (h : Hole w S rb roff b off f a c) (hp : PtrT w b off (.mk k n s l o) a c) (hS : ∀ q, a ≤ q → q < c → S q) (hc : c ≤ w.heap.size) (i : Nat) (hi : i < o.length) :
  ∃ g cap ai bi lv ov, At5 w b off [U8 k, .int .i64 n, .string s, lv, ov] ∧ ov = .slice (some ⟨g, 0, none⟩) o.length cap ∧ PtrT w g (0 + i * 6 + 1) o[i].v ai bi ∧ a ≤ ai ∧ bi ≤ c ∧ (a ≤ g ∧ g < c) ∧
   Hole w S rb roff g (0 + i * 6 + 1) (fun x => f (V.put (.mk k n s l o) (.o i) x)) ai bi := by
 obtain ⟨cs, h1, h2, h3, h4⟩ := hp
 rw [TV] at h2
 obtain ⟨lv, ov, ls, os, a1, a2, rfl, g1, g3, g4, g5, g6⟩ := h2
 have hne := g3.ne_ g4 (by decide)
 have z5 := TVs_le _ _ _ _ g5
 have z6 := TFs_le _ _ _ _ g6
 obtain ⟨g, cap, rfl, f1, f2, f3, f4, f5⟩ := g4.form (by omega)
 obtain ⟨ai, bi, e1, e2, e3, e4, e6, e5⟩ := TFs_hole g6 i hi
 have hl5 := (TV_le _ _ _ _ e4).2
 refine ⟨g, cap, ai, bi, lv, _, h1, rfl, ⟨_, fun j u hu => ?_, e4, by omega, f4⟩, by omega, by omega, by omega, ?_⟩
 ·have hj := (List.getElem?_eq_some_iff.1 hu).1
  rw [hl5] at hj
  rw [List.getElem?_take_of_lt hj, List.getElem?_drop] at hu
  rw [Nat.zero_add]
  exact f5 _ u hu
 ·intro w' Fr cs x hk hF hcell hat hrd
  have hbF : b < w.heap.size → ¬ Fr b := fun hb hf => by rcases hF b hb hf with h | h <;> omega
  have hb : b < w.heap.size := lt_of_cell (h1 0 _ rfl)
  have hlen5 := rdV_len hrd
  refine h w' Fr [U8 k, .int .i64 n, .string s, lv, .slice (some ⟨g, 0, none⟩) o.length cap] _ hk (fun q hq hf => ?_) (fun i _ => hk.cell (p := ⟨b, i, none⟩) hb (hbF hb)) (fun j u hu => (hk.cell (p := ⟨b, off + j, none⟩) hb (hbF hb)).trans (h1 j u hu)) ?_
  ·rcases hF q hq hf with h | h <;> left <;> omega
  ·have ho : o[i]? = some o[i] := by simp [hi]
   show rdV w' S (.mk k n s l (match o[i]? with | some f => o.set i (.mk f.key x) | none => o)) _
   rw [ho]
   show rdV w' S (.mk k n s l (o.set i (.mk o[i].key x))) _
   rw [rdV]
   have hg5 := g4.1
   refine ⟨lv, _, ls, os.take (i * 6 + 1) ++ cs ++ os.drop (i * 6 + 6), rfl, ⟨?_, ?_⟩, ?_, ?_⟩
   ·exact (g3.keepB (hk.mono (G := fun k => k < w.heap.size ∧ Fr k) fun q hq hf => ⟨hq, hf⟩) (fun q cap' e _ _ hf => by have := hne _ _ _ _ e rfl; rcases hF q hf.1 hf.2 with h | h <;> omega)).rowS (fun q _ _ => hS q (by omega) (by omega))
   ·exact TVs_rd _ _ _ _ (fun q _ _ => hS q (by omega) (by omega)) (TVs_keep (hk.mono (G := fun k => k < w.heap.size ∧ Fr k) fun q hq hf => ⟨hq, hf⟩) _ _ _ _ (fun q _ _ hf => by rcases hF q hf.1 hf.2 with h | h <;> omega) g5)
   ·rw [List.length_set]
    refine g4.turn (fun q _ _ => hS q (by omega) (by omega)) hk.size (by simp only [List.length_append, List.length_take, List.length_drop]; omega) ?_
    intro g' cap' e j u hu
    injection e with e
    injection e with e
    injection e with e
    subst e
    rcases Nat.lt_or_ge j (i * 6 + 1) with hj | hj
    ·rw [List.append_assoc, List.getElem?_append_left (by simp only [List.length_take]; omega), List.getElem?_take_of_lt hj] at hu
     rw [hcell j (by omega)]
     exact f5 j u hu
    ·rcases Nat.lt_or_ge j (i * 6 + 6) with hj2 | hj2
     ·rw [List.getElem?_append_left (by simp only [List.length_append, List.length_take]; omega), List.getElem?_append_right (by simp only [List.length_take]; omega)] at hu
      simp only [List.length_take, Nat.min_eq_left (show i * 6 + 1 ≤ os.length by omega)] at hu
      have := hat _ u hu
      rwa [show 0 + i * 6 + 1 + (j - (i * 6 + 1)) = j from by omega] at this
     ·rw [List.getElem?_append_right (by simp only [List.length_append, List.length_take]; omega), List.getElem?_drop] at hu
      simp only [List.length_append, List.length_take, Nat.min_eq_left (show i * 6 + 1 ≤ os.length by omega), hlen5] at hu
      rw [show i * 6 + 6 + (j - (i * 6 + 1 + 5)) = j from by omega] at hu
      rw [hcell j (by omega)]
      exact f5 j u hu
   ·exact e5 w' (fun k => k < w.heap.size ∧ Fr k) S x cs (hk.mono fun q hq hf => ⟨hq, hf⟩) (fun q _ _ hor hf => by rcases hF q hf.1 hf.2 with h | h <;> omega) (fun q _ _ => hS q (by omega) (by omega)) hrd
def fieldL (o : List F) (key : ByteArray) : Nat := (o.takeWhile fun f => keyLt f.key key).length
def fieldIs (o : List F) (key : ByteArray) : Bool := match o[fieldL o key]? with | some f => f.key.toList == key.toList | none => false
theorem fieldL_le (o : List F) (key : ByteArray) : fieldL o key ≤ o.length := by
 unfold fieldL
 exact (List.takeWhile_prefix _).length_le
theorem fieldL_at {o : List F} {key : ByteArray} {j : Nat} (hj : j ≤ o.length) (h : ∀ i (hi : i < o.length), i < j → keyLt o[i].key key = true) (h2 : ∀ hj' : j < o.length, keyLt o[j].key key = false) : fieldL o key = j := by
 unfold fieldL
 induction o generalizing j with
 | nil => simp at hj; simp [hj]
 | cons f fs ih =>
  cases j with
  | zero =>
   have := h2 (by simp)
   simp only [List.getElem_cons_zero] at this
   simp [List.takeWhile_cons, this]
  | succ j =>
   have h0 := h 0 (by simp) (by omega)
   simp only [List.getElem_cons_zero] at h0
   rw [List.takeWhile_cons, h0]
   simp only [↓reduceIte, List.length_cons]
   rw [ih (by simpa using hj) (fun i hi hij => by have := h (i + 1) (by simpa using hi) (by omega); simpa using this) (fun hj' => by have := h2 (by simpa using hj'); simpa using this)]
theorem fieldIs_some {o : List F} {key : ByteArray} {j : Nat} (hj : j < o.length) (h : fieldL o key = j) : fieldIs o key = (o[j].key.toList == key.toList) := by
 unfold fieldIs
 rw [h]
 simp [hj]
theorem fieldIs_none {o : List F} {key : ByteArray} (h : fieldL o key = o.length) : fieldIs o key = false := by
 unfold fieldIs
 rw [h]
 simp
theorem EField_cells {w : World} {S : BS} {cs : List Value} {f : F} (h : EField.rd w S cs f) : ∃ lv ov, cs = [.string f.key, U8 f.v.kind, .int .i64 f.v.n, .string f.v.s, lv, ov] ∧ (∃ A c, lv = .slice A f.v.l.length c) ∧ (∃ A c, ov = .slice A f.v.o.length c) ∧ VAt w S (.agg #[U8 f.v.kind, .int .i64 f.v.n, .string f.v.s, lv, ov]) f.v := by
 obtain ⟨c0, rfl, h0⟩ := rdF_iff.1 h
 obtain ⟨lv, ov, rfl, h1, h2⟩ := rdV_iff.1 h0
 obtain ⟨A, c, rfl, _⟩ := h1.shape
 obtain ⟨A', c', rfl, _⟩ := h2.shape
 exact ⟨_, _, rfl, ⟨_, _, rfl⟩, ⟨_, _, rfl⟩, ⟨_, _, rfl, h1, h2⟩⟩
structure St where
 list : Bool
 i : Int
 key : ByteArray
def ESt : El St := { size := 3, rd := fun _ _ cs s => cs = [.bool s.list, .int .i64 s.i, .string s.key] }
theorem ESt.ok : ESt.Ok where
 pos := by decide
 len := fun h => by subst h; rfl
 one := fun h u hu => by
  subst h
  simp at hu
  rcases hu with rfl | rfl | rfl <;> rfl
 keep := fun h _ _ => h
 more := fun h _ => h
def stepV (v : V) (s : St) : Option Loc :=
 if s.list then (if v.kind = 4 ∧ 0 ≤ s.i ∧ s.i < v.l.length then some (.l s.i.toNat) else none)
 else if v.kind = 5 ∧ fieldIs v.o s.key = true then some (.o (fieldL v.o s.key)) else none
def getV : V → List St → Option V
 | v, [] => some v
 | v, s :: p => match stepV v s with
  | none => none
  | some loc => match v.child? loc with
   | none => none
   | some y => getV y p
def putV : V → List St → V → Option V
 | _, [], x => some x
 | v, s :: p, x => match stepV v s with
  | none => none
  | some loc => match v.child? loc with
   | none => none
   | some y => (putV y p x).map (v.put loc)
theorem fieldIs_lt {o : List F} {key : ByteArray} (h : fieldIs o key = true) : fieldL o key < o.length := by
 unfold fieldIs at h
 rcases Nat.lt_or_ge (fieldL o key) o.length with h1 | h1
 ·exact h1
 ·rw [List.getElem?_eq_none h1] at h; cases h
theorem child_l (v : V) (i : Nat) : v.child? (.l i) = v.l[i]? := by cases v; rfl
theorem child_o (v : V) (i : Nat) : v.child? (.o i) = v.o[i]?.map F.v := by cases v; rfl
theorem stepV_l {v : V} {s : St} (hl : s.list = true) : stepV v s = if v.kind = 4 ∧ 0 ≤ s.i ∧ s.i < v.l.length then some (.l s.i.toNat) else none := by unfold stepV; rw [if_pos hl]
theorem stepV_o {v : V} {s : St} (hl : s.list = false) : stepV v s = if v.kind = 5 ∧ fieldIs v.o s.key = true then some (.o (fieldL v.o s.key)) else none := by unfold stepV; rw [if_neg (by simp [hl])]
theorem stepV_child {v : V} {s : St} {loc : Loc} (h : stepV v s = some loc) : ∃ y, v.child? loc = some y := by
 by_cases hl : s.list = true
 ·rw [stepV_l hl] at h
  by_cases h1 : v.kind = 4 ∧ 0 ≤ s.i ∧ s.i < v.l.length
  ·rw [if_pos h1] at h
   obtain rfl := Option.some.inj h
   exact ⟨v.l[s.i.toNat]'(by omega), by rw [child_l, List.getElem?_eq_getElem]⟩
  ·rw [if_neg h1] at h; cases h
 ·rw [stepV_o (by simpa using hl)] at h
  by_cases h1 : v.kind = 5 ∧ fieldIs v.o s.key = true
  ·rw [if_pos h1] at h
   obtain rfl := Option.some.inj h
   have := fieldIs_lt h1.2
   exact ⟨(v.o[fieldL v.o s.key]).v, by simp [child_o, this]⟩
  ·rw [if_neg h1] at h; cases h
theorem getV_snoc : ∀ (p : List St) (v : V) (s : St), getV v (p ++ [s]) = (getV v p).bind fun x => (stepV x s).bind fun loc => x.child? loc
 | [], v, s => by
  simp only [List.nil_append, getV, Option.bind_some]
  cases stepV v s with
  | none => rfl
  | some loc => simp only [Option.bind_some]; cases v.child? loc <;> rfl
 | t :: p, v, s => by
  simp only [List.cons_append, getV]
  cases stepV v t with
  | none => rfl
  | some loc =>
   simp only
   cases v.child? loc with
   | none => rfl
   | some y => exact getV_snoc p y s
theorem getV_append : ∀ (p q : List St) (v : V), getV v (p ++ q) = (getV v p).bind fun x => getV x q
 | [], q, v => by simp [getV]
 | t :: p, q, v => by
  simp only [List.cons_append, getV]
  cases stepV v t with
  | none => rfl
  | some loc =>
   simp only
   cases v.child? loc with
   | none => rfl
   | some y => exact getV_append p q y
theorem putV_append : ∀ (p q : List St) (v z : V), putV v (p ++ q) z = (getV v p).bind fun x => (putV x q z).bind fun y => putV v p y
 | [], q, v, z => by
  simp only [List.nil_append, getV, putV, Option.bind_some]
  cases putV v q z <;> rfl
 | t :: p, q, v, z => by
  simp only [List.cons_append, getV, putV]
  cases stepV v t with
  | none => rfl
  | some loc =>
   simp only
   cases v.child? loc with
   | none => rfl
   | some y =>
    simp only
    rw [putV_append p q y z]
    cases getV y p with
    | none => rfl
    | some x =>
     simp only [Option.bind_some]
     cases putV x q z with
     | none => rfl
     | some y' => rfl
theorem putV_one {v : V} {s : St} {loc : Loc} (h : stepV v s = some loc) (x : V) : putV v [s] x = some (v.put loc x) := by
 obtain ⟨y, hy⟩ := stepV_child h
 simp only [putV, h, hy, Option.map_some]
theorem putV_some : ∀ (p : List St) (v x : V), (getV v p).isSome = (putV v p x).isSome
 | [], v, x => rfl
 | t :: p, v, x => by
  simp only [getV, putV]
  cases stepV v t with
  | none => rfl
  | some loc =>
   simp only
   cases v.child? loc with
   | none => rfl
   | some y => simp only [Option.isSome_map]; exact putV_some p y x
end Go.Proofs.YtggkidnlmaindaaDoor
