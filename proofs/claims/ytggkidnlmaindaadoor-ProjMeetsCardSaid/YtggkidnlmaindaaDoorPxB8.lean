/- MixT, ValCopyT, PathG: laid together. -/
import Derived.Test.YtggkidnlmaindaaDoorPxB5
import Derived.Test.YtggkidnlmaindaaDoorPxB7
import Derived.Test.YtggkidnlmaindaaDoorPxB4
set_option linter.unusedSimpArgs false
set_option linter.unusedVariables false
set_option maxHeartbeats 25600000
set_option maxRecDepth 20000
namespace Go.Proofs.YtggkidnlmaindaaDoor
open Go.RowKit
abbrev Rng (α : Type) := World → List α → Nat → Nat → List Value → Prop
def MixT {α : Type} (E : El α) (R : Rng α) (w : World) (base : Nat) (T : TypeId) (lo hi : Nat) (S0 : BS) (v : Value) (xs : List α) (j : Nat) : Prop :=
 (v = .slice none 0 0 ∧ xs = []) ∨
 ∃ g cap cur, v = .slice (some ⟨g, 0, none⟩) xs.length cap ∧ base ≤ g ∧ Blk w g T cur ∧ xs.length ≤ cap ∧ cap ≤ maxLen ∧ cur.size = cap * E.size ∧
  R w (xs.take j) lo hi (cur.toList.take (j * E.size)) ∧ Cells E w S0 ((cur.toList.take (xs.length * E.size)).drop (j * E.size)) (xs.drop j)
structure Rng.Ok {α : Type} (R : Rng α) : Prop where
 nil : ∀ {w a b}, a ≤ b → R w [] a b []
 keep : ∀ {Fr w w' l a b cs}, Keep Fr w w' → (∀ q, a ≤ q → q < b → ¬ Fr q) → R w l a b cs → R w' l a b cs
theorem TVs.okR : Rng.Ok TVs where
 nil := fun h => by rw [TVs]; exact ⟨rfl, h⟩
 keep := fun hk hF h => TVs_keep hk _ _ _ _ hF h
theorem TFs.okR : Rng.Ok TFs where
 nil := fun h => by rw [TFs]; exact ⟨rfl, h⟩
 keep := fun hk hF h => TFs_keep hk _ _ _ _ hF h
section
variable {α : Type} {E : El α} {R : Rng α} {Fr : Nat → Prop} {w w' : World} {S0 : BS} {base lo hi : Nat} {T : TypeId} {v : Value} {xs : List α} {j : Nat}
theorem MixT.start (hR : R.Ok) (h : Own E w base T S0 v xs) (hl : lo ≤ hi) : MixT E R w base T lo hi S0 v xs 0 := by
 rcases h with h | ⟨g, cap, cur, e, h1, h2, h3, h4, h5, h6⟩
 ·exact .inl h
 ·exact .inr ⟨g, cap, cur, e, h1, h2, h3, h4, h5, by simp only [Nat.zero_mul, List.take_zero]; exact hR.nil hl, by simpa using h6⟩
theorem MixT.again {lo' hi' : Nat} (hR : R.Ok) (h : MixT E R w base T lo hi S0 v xs 0) (hl : lo' ≤ hi') : MixT E R w base T lo' hi' S0 v xs 0 := by
 rcases h with h | ⟨g, cap, cur, e, h1, h2, h3, h4, h5, _, h6⟩
 ·exact .inl h
 ·exact .inr ⟨g, cap, cur, e, h1, h2, h3, h4, h5, by simp only [Nat.zero_mul, List.take_zero]; exact hR.nil hl, h6⟩
theorem MixT.done (hR : R.Ok) (h : MixT E R w base T lo hi S0 v xs xs.length) (hl : lo ≤ hi) {b : Nat} (hb : ∀ g, v.ownBlock = some g → g < b) (hs : ∀ cs, R w xs lo hi cs → cs.length = xs.length * E.size) : ∃ cs, RowB w base b T E.size v xs.length cs ∧ R w xs lo hi cs := by
 rcases h with ⟨h, rfl⟩ | ⟨g, cap, cur, e, h1, h2, h3, h4, h5, h6, _⟩
 ·exact ⟨[], ⟨by simp, .inl ⟨h, rfl⟩⟩, hR.nil hl⟩
 ·rw [List.take_length] at h6
  exact ⟨_, ⟨hs _ h6, .inr ⟨g, cap, cur, e, h1, hb g (by rw [e]; rfl), h2, h3, h4, h5, rfl⟩⟩, h6⟩
theorem MixT.shape (h : MixT E R w base T lo hi S0 v xs j) : ∃ A c, v = .slice A xs.length c ∧ xs.length ≤ c ∧ c ≤ maxLen := by
 rcases h with ⟨rfl, rfl⟩ | ⟨g', cap, cur, rfl, h1, h2, h3, h4, _⟩
 ·exact ⟨none, 0, rfl, by simp, by simp [maxLen]⟩
 ·exact ⟨_, cap, rfl, h3, h4⟩
theorem MixT.lt (h : MixT E R w base T lo hi S0 v xs j) {g : Nat} (hg : v.ownBlock = some g) : base ≤ g ∧ g < w.heap.size := by
 rcases h with ⟨rfl, _⟩ | ⟨g', cap, cur, rfl, h1, h2, _⟩
 ·simp [Value.ownBlock] at hg
 ·simp [Value.ownBlock] at hg; subst hg; exact ⟨h1, h2.lt⟩
theorem MixT.keep (hE : E.Ok) (hR : R.Ok) (h : MixT E R w base T lo hi S0 v xs j) (hk : Keep Fr w w') (hF1 : ∀ k, lo ≤ k → k < hi → ¬ Fr k) (hF0 : ∀ k, S0 k → ¬ Fr k) (hg : ∀ g, v.ownBlock = some g → ¬ Fr g) : MixT E R w' base T lo hi S0 v xs j := by
 rcases h with h | ⟨g', cap, cur, rfl, h1, h2, h3, h4, h5, h6, h7⟩
 ·exact .inl h
 ·exact .inr ⟨g', cap, cur, rfl, h1, h2.keep hk (hg g' rfl), h3, h4, h5, hR.keep hk hF1 h6, h7.keep hE hk hF0⟩
theorem MixT.ext (hE : E.Ok) (hR : R.Ok) (h : MixT E R w base T lo hi S0 v xs j) (hk : Ext w w') : MixT E R w' base T lo hi S0 v xs j := h.keep hE hR hk (fun _ _ _ x => x) (fun _ _ x => x) (fun _ _ x => x)
theorem MixT.next (hE : E.Ok) (hR : R.Ok) (h : MixT E R w base T lo hi S0 v xs j) (hj : j < xs.length) :
  ∃ g cap c0, v = .slice (some ⟨g, 0, none⟩) xs.length cap ∧ base ≤ g ∧ g < w.heap.size ∧ E.rd w S0 c0 xs[j] ∧ (∀ i u, c0[i]? = some u → w.cell? ⟨g, j * E.size + i, none⟩ = some u) ∧ (∀ i, w.frozen? ⟨g, i, none⟩ = false) ∧
   ∀ (w' w'' : World) (c' : List Value) (hi' : Nat), Ext w w' → Keep (· = g) w' w'' → ¬ (lo ≤ g ∧ g < hi) → ¬ S0 g → c'.length = E.size → (∀ cs, R w'' (xs.take j) lo hi cs → R w'' (xs.take j ++ [xs[j]]) lo hi' (cs ++ c')) →
    (∀ cur, Blk w' g T cur → j * E.size + E.size ≤ cur.size → c0 = (cur.toList.drop (j * E.size)).take E.size → ∃ cur', Blk w'' g T cur' ∧ cur'.toList = cur.toList.take (j * E.size) ++ c' ++ cur.toList.drop (j * E.size + E.size)) → MixT E R w'' base T lo hi' S0 v xs (j + 1) := by
 rcases h with ⟨_, rfl⟩ | ⟨g, cap, cur, rfl, h1, h2, h3, h4, h5, h6, h7⟩
 ·simp at hj
 have hj1 : j * E.size + E.size ≤ xs.length * E.size := by rw [← Nat.succ_mul]; exact Nat.mul_le_mul_right _ hj
 have hj2 : xs.length * E.size ≤ cap * E.size := Nat.mul_le_mul_right _ h3
 have hcl : cur.toList.length = cap * E.size := by simpa using h5
 have h7' := h7
 rw [List.drop_eq_getElem_cons hj] at h7'
 obtain ⟨c0, c1, e, hrd, hrest⟩ := h7'
 have hl0 := hE.len hrd
 have hc0 : c0 = (cur.toList.drop (j * E.size)).take E.size := by
  have : ((cur.toList.take (xs.length * E.size)).drop (j * E.size)).take E.size = c0 := by rw [e]; exact List.take_left' hl0
  rw [← this, List.drop_take, List.take_take, Nat.min_eq_left (by omega)]
 have hc1 : c1 = (cur.toList.take (xs.length * E.size)).drop (j * E.size + E.size) := by
  rw [← List.drop_drop, e]; exact (List.drop_left' hl0).symm
 refine ⟨g, cap, c0, rfl, h1, h2.lt, hrd, fun i u hu => ?_, fun i => h2.frozen i, fun w' w'' c' hi' hE' hk hS1 hS0 hlen' hrd' hupd => ?_⟩
 ·rw [h2.cell]
  rw [hc0, List.getElem?_take] at hu
  split at hu
  ·rw [List.getElem?_drop] at hu; simpa using hu
  ·cases hu
 ·obtain ⟨cur', hb', hcur'⟩ := hupd cur (h2.keep hE' id) (by omega) hc0
  have hc'l : cur'.size = cap * E.size := by
   have : cur'.toList.length = cap * E.size := by rw [hcur']; simp only [List.length_append, List.length_take, List.length_drop, hlen', hcl]; omega
   simpa using this
  refine .inr ⟨g, cap, cur', rfl, h1, hb', h3, h4, hc'l, ?_, ?_⟩
  ·rw [hcur', Nat.succ_mul, List.take_left' (by simp only [List.length_append, List.length_take, List.length_drop, hlen', hcl]; omega), ← List.take_append_getElem hj]
   exact hrd' _ (hR.keep hk (fun k ha hb e => hS1 ⟨e ▸ ha, e ▸ hb⟩) (hR.keep hE' (fun _ _ _ x => x) h6))
  ·have : (cur'.toList.take (xs.length * E.size)).drop ((j + 1) * E.size) = c1 := by
    rw [hc1, hcur', Nat.succ_mul]
    apply List.ext_getElem?
    intro i
    rw [List.getElem?_drop, List.getElem?_drop, List.getElem?_take, List.getElem?_take]
    split
    ·rw [List.getElem?_append_right (by simp only [List.length_append, List.length_take, List.length_drop, hlen', hcl]; omega), List.getElem?_drop]
     congr 1
     simp only [List.length_append, List.length_take, List.length_drop, hlen', hcl]; omega
    ·rfl
   rw [this]
   exact (hrest.keep hE hE' fun _ _ x => x).keep hE hk (fun k hk e => hS0 (e ▸ hk))
end
section
variable {w : World} {S0 : BS} {base lo hi : Nat} {T : TypeId} {v : Value} {j : Nat}
theorem MixT.nextV {xs : List V} (h : MixT EVal TVs w base T lo hi S0 v xs j) (hj : j < xs.length) :
  ∃ g cap a b c d e, v = .slice (some ⟨g, 0, none⟩) xs.length cap ∧ base ≤ g ∧ g < w.heap.size ∧ VAt w S0 (.agg #[a, b, c, d, e]) xs[j] ∧
   (w.cell? ⟨g, j * 5, none⟩ = some a ∧ w.cell? ⟨g, j * 5 + 1, none⟩ = some b ∧ w.cell? ⟨g, j * 5 + 2, none⟩ = some c ∧ w.cell? ⟨g, j * 5 + 3, none⟩ = some d ∧ w.cell? ⟨g, j * 5 + 4, none⟩ = some e) ∧ (∀ i, w.frozen? ⟨g, i, none⟩ = false) ∧
   ∀ (w' : World) (hi' : Nat) (a b c d e : Value), Ext w w' → g < lo → ¬ S0 g → TV w' xs[j] hi hi' [a, b, c, d, e] → lo ≤ hi → MixT EVal TVs (set5 w' g (j * 5) a b c d e) base T lo hi' S0 v xs (j + 1) := by
 obtain ⟨g, cap, c0, h1, h2, h3, h4, h5, h6, h7⟩ := h.next EVal.ok TVs.okR hj
 obtain ⟨lv, ov, rfl, hl, ho⟩ := rdV_iff.1 h4
 refine ⟨g, cap, _, _, _, _, _, h1, h2, h3, ⟨_, _, rfl, hl, ho⟩, ⟨h5 0 _ rfl, h5 1 _ rfl, h5 2 _ rfl, h5 3 _ rfl, h5 4 _ rfl⟩, h6, fun w' hi' a b c d e hE hg hS0 hv hlh => ?_⟩
 refine h7 w' _ [a, b, c, d, e] hi' hE (set5_keep _ _ _ _ _ _ _ _) (by omega) hS0 rfl (fun cs hcs => ?_) fun cur hb hle _ => set5_blk hb _ _ _ _ _ _ hle
 exact TVs_snoc hcs (TV_keep (set5_keep _ _ _ _ _ _ _ _) _ _ _ _ (fun q hq _ e => by omega) hv)
theorem MixT.nextF {xs : List F} (h : MixT EField TFs w base T lo hi S0 v xs j) (hj : j < xs.length) :
  ∃ g cap a b c d e, v = .slice (some ⟨g, 0, none⟩) xs.length cap ∧ base ≤ g ∧ g < w.heap.size ∧ VAt w S0 (.agg #[a, b, c, d, e]) xs[j].v ∧
   (w.cell? ⟨g, j * 6 + 1, none⟩ = some a ∧ w.cell? ⟨g, j * 6 + 2, none⟩ = some b ∧ w.cell? ⟨g, j * 6 + 3, none⟩ = some c ∧ w.cell? ⟨g, j * 6 + 4, none⟩ = some d ∧ w.cell? ⟨g, j * 6 + 5, none⟩ = some e) ∧ (∀ i, w.frozen? ⟨g, i, none⟩ = false) ∧
   ∀ (w' : World) (hi' : Nat) (a b c d e : Value), Ext w w' → g < lo → ¬ S0 g → TV w' xs[j].v hi hi' [a, b, c, d, e] → lo ≤ hi → MixT EField TFs (set5 w' g (j * 6 + 1) a b c d e) base T lo hi' S0 v xs (j + 1) := by
 obtain ⟨g, cap, c0, h1, h2, h3, h4, h5, h6, h7⟩ := h.next EField.ok TFs.okR hj
 obtain ⟨c1, rfl, h41⟩ := rdF_iff.1 h4
 obtain ⟨lv, ov, rfl, hl, ho⟩ := rdV_iff.1 h41
 refine ⟨g, cap, _, _, _, _, _, h1, h2, h3, ⟨_, _, rfl, hl, ho⟩, ⟨h5 1 _ rfl, h5 2 _ rfl, h5 3 _ rfl, h5 4 _ rfl, h5 5 _ rfl⟩, h6, fun w' hi' a b c d e hE hg hS0 hv hlh => ?_⟩
 refine h7 w' _ (.string xs[j].key :: [a, b, c, d, e]) hi' hE (set5_keep _ _ _ _ _ _ _ _) (by omega) hS0 rfl (fun cs hcs => ?_) fun cur hb hle hc0 => ?_
 ·refine TFs_snoc hcs ?_
  have : xs[j] = .mk xs[j].key xs[j].v := by cases xs[j]; rfl
  rw [this, TF]
  exact ⟨_, rfl, TV_keep (set5_keep _ _ _ _ _ _ _ _) _ _ _ _ (fun q hq _ e => by omega) hv⟩
 ·have hle' : j * 6 + 6 ≤ cur.size := hle
  obtain ⟨cur', hb', he'⟩ := set5_blk hb (j * 6 + 1) a b c d e (by omega)
  refine ⟨cur', hb', ?_⟩
  have hc0' : .string xs[j].key :: [U8 xs[j].v.kind, .int .i64 xs[j].v.n, .string xs[j].v.s, lv, ov] = (cur.toList.drop (j * 6)).take 6 := hc0
  have hg : cur.toList[j * 6]? = some (.string xs[j].key) := by
   have : ((cur.toList.drop (j * 6)).take 6)[0]? = some (.string xs[j].key) := by rw [← hc0']; rfl
   rw [List.getElem?_take_of_lt (by omega), List.getElem?_drop] at this
   simpa using this
  rw [he']
  show cur.toList.take (j * 6 + 1) ++ [a, b, c, d, e] ++ cur.toList.drop (j * 6 + 6) = cur.toList.take (j * 6) ++ (.string xs[j].key :: [a, b, c, d, e]) ++ cur.toList.drop (j * 6 + 6)
  have : cur.toList.take (j * 6 + 1) = cur.toList.take (j * 6) ++ [.string xs[j].key] := by
   rw [List.take_add_one, hg]; rfl
  rw [this]; simp
end
structure CopyLT (w wr : World) (S : BS) (bx b1 B m1 m2 : Nat) (k0 n0 s0 lv ov : Value) (vl : List V) (vo : List F) (j i : Nat) : Prop where
 ext : Ext w wr
 size : B ≤ wr.heap.size
 h1 : B ≤ m1
 h2 : m1 ≤ m2
 h3 : m2 ≤ wr.heap.size
 box : Blk wr bx TVAL #[k0, n0, s0, lv, ov]
 res : Blk wr (bx + 1) TVAL #[.int .u8 0, .int .i64 0, .string ⟨#[]⟩, .slice none 0 0, .slice none 0 0]
 l : MixT EVal TVs wr b1 TVAL B m1 S lv vl j
 o : MixT EField TFs wr b1 TFIELD m1 m2 S ov vo i
 ne : ∀ g, lv.ownBlock = some g → ov.ownBlock ≠ some g
 hb1 : bx + 2 ≤ b1
 hbx : w.heap.size = bx
 hS : ∀ q, S q → q < w.heap.size
 gl : ∀ g, lv.ownBlock = some g → g < B
 go : ∀ g, ov.ownBlock = some g → g < B
section
variable {w wr : World} {S : BS} {bx b1 B m1 m2 m' : Nat} {k0 n0 s0 lv ov : Value} {vl : List V} {vo : List F} {j i : Nat}
theorem CopyLT.step_ext {w' : World} (h : CopyLT w wr S bx b1 B m1 m2 k0 n0 s0 lv ov vl vo j i) (he : Ext wr w') : CopyLT w w' S bx b1 B m1 m2 k0 n0 s0 lv ov vl vo j i :=
 { h with ext := h.ext.ext he, size := Nat.le_trans h.size he.size, h3 := Nat.le_trans h.h3 he.size, box := h.box.keep he id, res := h.res.keep he id, l := h.l.ext EVal.ok TVs.okR he, o := h.o.ext EField.ok TFs.okR he }
theorem CopyLT.stepL {g cap : Nat} (h : CopyLT w wr S bx b1 B m1 m1 k0 n0 s0 lv ov vl vo j 0) {a b c d e : Value} (hlv : lv = .slice (some ⟨g, 0, none⟩) vl.length cap) (hm1 : m1 ≤ m') (hm2 : m' ≤ wr.heap.size) (hm : MixT EVal TVs (set5 wr g (j * 5) a b c d e) b1 TVAL B m' S lv vl (j + 1)) :
  CopyLT w (set5 wr g (j * 5) a b c d e) S bx b1 B m' m' k0 n0 s0 lv ov vl vo (j + 1) 0 := by
 have hk := set5_keep wr g (j * 5) a b c d e
 have hg : lv.ownBlock = some g := by rw [hlv]; rfl
 have h1 := h.l.lt hg
 have h2 := h.gl g hg
 have h3 := h.hb1
 have h4 := h.hbx
 have h5 := h.h1
 exact { h with
  ext := h.ext.trans hk (fun q hq e => by omega), size := Nat.le_trans h.size hk.size, box := h.box.keep hk (by omega), res := h.res.keep hk (by omega), l := hm
  h1 := by omega, h2 := Nat.le_refl _, h3 := Nat.le_trans hm2 hk.size
  o := ((h.o.again TFs.okR (Nat.le_refl m')).keep EField.ok TFs.okR hk (fun q hq hq2 e => by omega) (fun q hq e => by have := h.hS q hq; omega) (fun q hq e => by subst e; exact h.ne _ hg hq)) }
theorem CopyLT.stepO {g cap : Nat} (h : CopyLT w wr S bx b1 B m1 m2 k0 n0 s0 lv ov vl vo j i) {a b c d e : Value} (hov : ov = .slice (some ⟨g, 0, none⟩) vo.length cap) (hm1 : m2 ≤ m') (hm2 : m' ≤ wr.heap.size) (hm : MixT EField TFs (set5 wr g (i * 6 + 1) a b c d e) b1 TFIELD m1 m' S ov vo (i + 1)) :
  CopyLT w (set5 wr g (i * 6 + 1) a b c d e) S bx b1 B m1 m' k0 n0 s0 lv ov vl vo j (i + 1) := by
 have hk := set5_keep wr g (i * 6 + 1) a b c d e
 have hg : ov.ownBlock = some g := by rw [hov]; rfl
 have h1 := h.o.lt hg
 have h2 := h.go g hg
 have h3 := h.hb1
 have h4 := h.hbx
 have h5 := h.h2
 exact { h with
  ext := h.ext.trans hk (fun q hq e => by omega), size := Nat.le_trans h.size hk.size, box := h.box.keep hk (by omega), res := h.res.keep hk (by omega), o := hm
  h2 := by omega, h3 := Nat.le_trans hm2 hk.size
  l := h.l.keep EVal.ok TVs.okR hk (fun q hq hq2 e => by omega) (fun q hq e => by have := h.hS q hq; omega) (fun q hq e => by subst e; exact h.ne _ hq hg) }
end
def OwnShape {α : Type} (E : El α) (w : World) (base : Nat) (T : TypeId) (S : BS) (v : Value) (xs : List α) : Prop := ∃ A c, v = .slice A xs.length c ∧ Own E w base T S v xs
theorem OwnShape.ext {α : Type} {E : El α} (hE : E.Ok) {w w' : World} {base : Nat} {T : TypeId} {S : BS} {v : Value} {xs : List α} (h : OwnShape E w base T S v xs) (he : Ext w w') : OwnShape E w' base T S v xs := by
 obtain ⟨A, c, e, h⟩ := h; exact ⟨A, c, e, h.ext hE he⟩
def CopyT (w : World) (v : V) (e : Ending) (w' : World) : Prop := ∃ lv ov, e = .returned (.agg #[U8 v.kind, .int .i64 v.n, .string v.s, lv, ov]) ∧ TV w' v w.heap.size w'.heap.size [U8 v.kind, .int .i64 v.n, .string v.s, lv, ov] ∧ Ext w w'
theorem TV_at {w : World} {v : V} {a b : Nat} {x0 x1 x2 lv ov : Value} (h : TV w v a b [x0, x1, x2, lv, ov]) {S : BS} (hS : ∀ q, a ≤ q → q < b → S q) : VAt w S (.agg #[x0, x1, x2, lv, ov]) v := by
 obtain ⟨lv', ov', e, h1, h2⟩ := rdV_iff.1 (TV_rd _ _ _ _ hS h)
 simp at e
 obtain ⟨rfl, rfl, rfl, rfl, rfl⟩ := e
 exact ⟨_, _, rfl, h1, h2⟩
theorem CopyT.at_ {w : World} {v : V} {e : Ending} {w' : World} (h : CopyT w v e w') : ∃ u', e = .returned u' ∧ VAt w' (fun k => w.heap.size ≤ k) u' v ∧ Ext w w' := by
 obtain ⟨lv, ov, h1, h2, h3⟩ := h
 exact ⟨_, h1, TV_at h2 fun q hq _ => hq, h3⟩
def TVat (w : World) (a : Nat) (u : Value) (v : V) : Prop := ∃ lv ov, u = .agg #[U8 v.kind, .int .i64 v.n, .string v.s, lv, ov] ∧ TV w v a w.heap.size [U8 v.kind, .int .i64 v.n, .string v.s, lv, ov]
theorem TVat.ext {w w' : World} {a : Nat} {u : Value} {v : V} (h : TVat w a u v) (he : Ext w w') : TVat w' a u v := by
 obtain ⟨lv, ov, h1, h2⟩ := h
 exact ⟨lv, ov, h1, TV_mono (TV_keep he _ _ _ _ (fun _ _ _ x => x) h2) (Nat.le_refl _) he.size⟩
theorem TVat.get {w : World} {a : Nat} {x0 x1 x2 lv ov : Value} {v : V} (h : TVat w a (.agg #[x0, x1, x2, lv, ov]) v) : TV w v a w.heap.size [x0, x1, x2, lv, ov] := by
 obtain ⟨lv', ov', e, h⟩ := h
 simp only [Value.agg.injEq] at e
 simp at e
 obtain ⟨rfl, rfl, rfl, rfl, rfl⟩ := e
 exact h
theorem TV.shapes {w : World} {v : V} {a b : Nat} {x0 x1 x2 lv ov : Value} (h : TV w v a b [x0, x1, x2, lv, ov]) : (∃ A c, lv = .slice A v.l.length c) ∧ (∃ A c, ov = .slice A v.o.length c) := by
 obtain ⟨lv', ov', e, h1, h2⟩ := TV_at h (S := fun _ => True) (fun _ _ _ => trivial)
 simp only [Value.agg.injEq] at e
 simp at e
 obtain ⟨_, _, _, rfl, rfl⟩ := e
 obtain ⟨A, c, rfl, _⟩ := h1.shape
 obtain ⟨A', c', rfl, _⟩ := h2.shape
 exact ⟨⟨_, _, rfl⟩, ⟨_, _, rfl⟩⟩
theorem copy_valT : ∀ (n : Nat) (v : V), v.size ≤ n → n ≤ 1000000 → ∀ (u : Value) (S : BS) (w : World), VAt w S u v → Calls Tryd.prog 33 #[u] w (CopyT w v) := by
 intro n
 induction n with
 | zero => intro v h; have := v.size_pos; omega
 | succ n ih =>
  intro v hsz hn u S w hv
  obtain ⟨lv, ov, rfl, hl, ho⟩ := hv.cut
  have hlen := V.size_eq v
  have hl1 := V.sizes_len v.l
  have ho1 := F.sizes_len v.o
  have HIH := hid ih
  have HLM := hid (fun (x : V) (hx : x ∈ v.l) => (by have := V.sizes_mem hx; omega : x.size ≤ n))
  have HOM := hid (fun (x : F) (hx : x ∈ v.o) => (by have := F.sizes_mem hx; omega : x.v.size ≤ n))
  clear ih hv
  obtain ⟨A, c, rfl, hlc, hcm⟩ := hl.shape
  obtain ⟨A', c', rfl, hlc', hcm'⟩ := ho.shape
  have hll : v.l.length ≤ 1000000 := by omega
  have hol : v.o.length ≤ 1000000 := by omega
  generalize hvk : v.kind = kk at *
  generalize hvn : v.n = nn at *
  generalize hvs : v.s = ss at *
  generalize hvl : v.l = vl at *
  generalize hvo : v.o = vo at *
  have HEQ := hid (show v = .mk kk nn ss vl vo from by cases v; simp [V.kind, V.n, V.s, V.l, V.o] at hvk hvn hvs hvl hvo; subst hvk hvn hvs hvl hvo; rfl)
  clear hlen hl1 ho1 hvk hvn hvs
  have hb1 : Blk ((w.alloc (.cells #[U8 kk, .int .i64 nn, .string ss, .slice A vl.length c, .slice A' vo.length c'] TVAL)).alloc (.cells #[.int .u8 0, .int .i64 0, .string ⟨#[]⟩, .slice none 0 0, .slice none 0 0] TVAL)) w.heap.size TVAL #[U8 kk, .int .i64 nn, .string ss, .slice A vl.length c, .slice A' vo.length c'] := (Blk.new _ _ _).alloc _
  have hb2 : Blk ((w.alloc (.cells #[U8 kk, .int .i64 nn, .string ss, .slice A vl.length c, .slice A' vo.length c'] TVAL)).alloc (.cells #[.int .u8 0, .int .i64 0, .string ⟨#[]⟩, .slice none 0 0, .slice none 0 0] TVAL)) (w.heap.size + 1) TVAL #[.int .u8 0, .int .i64 0, .string ⟨#[]⟩, .slice none 0 0, .slice none 0 0] := by
   have := Blk.new (w.alloc (.cells #[U8 kk, .int .i64 nn, .string ss, .slice A vl.length c, .slice A' vo.length c'] TVAL)) TVAL #[.int .u8 0, .int .i64 0, .string ⟨#[]⟩, .slice none 0 0, .slice none 0 0]
   rwa [World.size_alloc] at this
  have hE1 : Ext w ((w.alloc (.cells #[U8 kk, .int .i64 nn, .string ss, .slice A vl.length c, .slice A' vo.length c'] TVAL)).alloc (.cells #[.int .u8 0, .int .i64 0, .string ⟨#[]⟩, .slice none 0 0, .slice none 0 0] TVAL)) := ((Keep.refl _ _).alloc _).alloc _
  have hz1 : ((w.alloc (.cells #[U8 kk, .int .i64 nn, .string ss, .slice A vl.length c, .slice A' vo.length c'] TVAL)).alloc (.cells #[.int .u8 0, .int .i64 0, .string ⟨#[]⟩, .slice none 0 0, .slice none 0 0] TVAL)).heap.size = w.heap.size + 2 := by simp
  have HL := hid hl
  have HO := hid ho
  clear hl ho hvl hvo
  go_enter Tryd.func33, Tryd.ntmps33
  go_wp2_with fail
  generalize (w.alloc (.cells #[U8 kk, .int .i64 nn, .string ss, .slice A vl.length c, .slice A' vo.length c'] TVAL)).alloc (.cells #[.int .u8 0, .int .i64 0, .string ⟨#[]⟩, .slice none 0 0, .slice none 0 0] TVAL) = w1 at *
  have HB1 := hid hb1
  have HB2 := hid hb2
  have HE1 := hid hE1
  have HZ1 := hid hz1
  have q3 := hb1.cell 3
  have q4 := hb1.cell 4
  simp at q3 q4
  clear hb1 hb2 hE1 hz1
  refine wp_region_parts [0, 3] [1, 2, 4, 5, 6] [7, 8, 9] (specOf [(2, fun v' w' => OwnShape EVal w' w1.heap.size TVAL (fun k => S k ∧ k < w.heap.size) v' vl), (5, fun v' w' => OwnShape EField w' w1.heap.size TFIELD (fun k => S k ∧ k < w.heap.size) v' vo)])
   (fun w' => Ext w1 w') ?_ (stableC_ext _) (by kernel_rfl) (by kernel_rfl) (Keep.drew (Keep.refl _ _)) ?_
  ·exact stable_cons (fun v w w' h he => h.ext EVal.ok he) (stable_cons (fun v w w' h he => h.ext EField.ok he) stable_nil)
  iterate 2
   (try simp only [Act.put, sqa, sqb, sqc])
   refine pure_run rfl rfl ?_
   apply Exists.intro
   refine ⟨fun w' => ?_, ?_⟩
   ·go_simp
    rfl
  refine pure_nil ?_
  iterate 1
   (try simp only [Act.put, sqa, sqb, sqc])
   refine growP_run rfl rfl rfl ?_
   apply Exists.intro
   refine ⟨fun w' hC hK => ?_, ?_⟩
   ·have q3 := sqw hC q3
    go_simp
    rfl
  (try simp only [Act.put, sqa, sqb, sqc])
  refine growP_eff rfl rfl rfl (fun w' hC hK => ?_) (fun v2 hv2 => ?_)
  ·unfold growAt
   go_simp
   refine grow_call ((clone_vals _ vl _ _ ((HL.out.ext EVal.ok HE1.out).ext EVal.ok hC) hll (fun k h => by have := HZ1.out; have := hC.size; have := h.2; omega)).mono ?_)
   rintro e w'' ⟨v', rfl, h1, h2⟩
   obtain ⟨A2, c2, e2, _⟩ := h1.shape
   exact ⟨_, rfl, h2, A2, c2, e2, h1.less hC.size⟩
  obtain ⟨_, _, A2, c2, rfl, _⟩ := hv2.head
  iterate 1
   (try simp only [Act.put, sqa, sqb, sqc])
   refine growP_run rfl rfl rfl ?_
   apply Exists.intro
   refine ⟨fun w' hC hK => ?_, ?_⟩
   ·have q4 := sqw hC q4
    go_simp
    rfl
  (try simp only [Act.put, sqa, sqb, sqc])
  refine growP_eff rfl rfl rfl (fun w' hC hK => ?_) (fun v5 hv5 => ?_)
  ·unfold growAt
   go_simp
   refine grow_call ((clone_fields _ vo _ _ ((HO.out.ext EField.ok HE1.out).ext EField.ok hC) hol (fun k h => by have := HZ1.out; have := hC.size; have := h.2; omega)).mono ?_)
   rintro e w'' ⟨v', rfl, h1, h2⟩
   obtain ⟨A2, c2, e2, _⟩ := h1.shape
   exact ⟨_, rfl, h2, A2, c2, e2, h1.less hC.size⟩
  obtain ⟨_, _, A5, c5, rfl, _⟩ := hv5.head
  iterate 1
   (try simp only [Act.put, sqa, sqb, sqc])
   refine growP_run rfl rfl rfl ?_
   apply Exists.intro
   refine ⟨fun w' hC hK => ?_, ?_⟩
   ·go_simp
    rfl
  refine growP_nil fun w2 hC hK => ?_
  obtain ⟨_, _, _, f2⟩ : OwnShape EVal w2 w1.heap.size TVAL (fun k => S k ∧ k < w.heap.size) (.slice A2 vl.length c2) vl := hK (2, _) (List.mem_cons_of_mem _ List.mem_cons_self)
  obtain ⟨_, _, _, f5⟩ : OwnShape EField w2 w1.heap.size TFIELD (fun k => S k ∧ k < w.heap.size) (.slice A5 vo.length c5) vo := hK (5, _) List.mem_cons_self
  change wpList _ _ _ (_ :: _ :: _ :: []) _ _
  have hC' : Ext w1 w2 := hC
  have HF2 := hid f2
  have HF5 := hid f5
  have HB3 := hid (HB1.out.keep hC' id)
  have HB4 := hid (HB2.out.keep hC' id)
  have HE2 := hid (HE1.out.ext hC')
  have HZ2 := hid hC'.size
  have hx3 := HB3.out.cell 3
  have hx4 := HB3.out.cell 4
  have hy3 := HB3.out.frozen 3
  have hy4 := HB3.out.frozen 4
  simp at hx3 hx4
  clear hC hC' hK hv2 hv5 f2 f5 q3 q4
  (try simp only [Act.put, sqa, sqb, sqc])
  have hw3 : CopyLT w ((w2.setCell ⟨w.heap.size, 3, none⟩ (.slice A2 vl.length c2)).setCell ⟨w.heap.size, 4, none⟩ (.slice A5 vo.length c5)) (fun k => S k ∧ k < w.heap.size) w.heap.size w1.heap.size w2.heap.size w2.heap.size w2.heap.size (U8 kk) (.int .i64 nn) (.string ss) (.slice A2 vl.length c2) (.slice A5 vo.length c5) vl vo 0 0 := by
   have hk : Keep (· = w.heap.size) w2 ((w2.setCell ⟨w.heap.size, 3, none⟩ (.slice A2 vl.length c2)).setCell ⟨w.heap.size, 4, none⟩ (.slice A5 vo.length c5)) := ((Keep.refl (· = w.heap.size) w2).set1 3 _).set1 4 _
   have hz1 := HZ1.out
   have hz2 := HZ2.out
   refine ⟨HE2.out.trans hk (fun q hq e => by omega), hk.size, Nat.le_refl _, Nat.le_refl _, hk.size, ?_, HB4.out.keep hk (by omega), (MixT.start TVs.okR HF2.out (Nat.le_refl _)).keep EVal.ok TVs.okR hk (fun q hq _ e => by omega) (fun q hq e => by have := hq.2; omega) (fun q hq e => by have := (HF2.out.lt hq).1; omega),
    (MixT.start TFs.okR HF5.out (Nat.le_refl _)).keep EField.ok TFs.okR hk (fun q hq _ e => by omega) (fun q hq e => by have := hq.2; omega) (fun q hq e => by have := (HF5.out.lt hq).1; omega), ?_, by omega, rfl, fun q hq => hq.2, fun g hg => (HF2.out.lt hg).2, fun g hg => (HF5.out.lt hg).2⟩
   ·have := (HB3.out.set_ 3 (.slice A2 vl.length c2)).set_ 4 (.slice A5 vo.length c5)
    simpa using this
   ·intro g h1 h2
    rcases HF2.out with ⟨e, _⟩ | ⟨g1, cap1, cur1, e, _, hb1, _⟩
    ·rw [e] at h1; cases h1
    rcases HF5.out with ⟨e', _⟩ | ⟨g2, cap2, cur2, e', _, hb2, _⟩
    ·rw [e'] at h2; cases h2
    rw [e] at h1
    rw [e'] at h2
    obtain rfl : g1 = g := Option.some.inj h1
    obtain rfl : g2 = g1 := Option.some.inj h2
    exact Blk.ne_ hb1 hb2 (by decide) rfl
  have HW3 := hid hw3
  clear hw3
  go_wp2_with fail
  refine NoPanic.normal ?_
  have HW3' := HW3
  generalize (w2.setCell ⟨w.heap.size, 3, none⟩ (.slice A2 vl.length c2)).setCell ⟨w.heap.size, 4, none⟩ (.slice A5 vo.length c5) = w3 at *
  clear HW3' HB3 HB4 HE2 HF2 HF5 hx3 hx4 hy3 hy4 HB1 HB2 HE1 HL HO
  obtain ⟨bx, hbx⟩ : ∃ bx, bx = w.heap.size := ⟨_, rfl⟩
  obtain ⟨b1, hb1⟩ : ∃ b1, b1 = w1.heap.size := ⟨_, rfl⟩
  obtain ⟨B, hB⟩ : ∃ B, B = w2.heap.size := ⟨_, rfl⟩
  rw [← hb1, ← hB] at HW3
  rw [← hb1, ← hB] at HZ2
  have q3 := HW3.out.box.cell 3
  simp at q3
  go_wp2_with fail
  clear q3
  go_loopw [16] (fun i wr => ∃ (j m1 : Nat), j ≤ vl.length ∧ i = .int .i64 j ∧ CopyLT w wr (fun k => S k ∧ k < w.heap.size) w.heap.size b1 B m1 m1 (U8 kk) (.int .i64 nn) (.string ss) (.slice A2 vl.length c2) (.slice A5 vo.length c5) vl vo j 0) (fun i _ => vl.length - (intOf i).toNat)
  case atStart => exact ⟨0, B, by omega, rfl, HW3.out⟩
  case round =>
   clear HW3
   obtain ⟨j, m1, hj, rfl, hr⟩ := hrel
   by_cases hlt : j < vl.length
   ·obtain ⟨g, cap, a0, b0, c0, d0, e0, hlv, hg1, hg2, hva, ⟨x0, x1, x2, x3, x4⟩, hfz, hnext⟩ := hr.l.nextV hlt
    injection hlv with hA hl' hc
    subst hA hc
    have hgB := hr.gl g rfl
    have HNX := hid hnext
    have q3 := hr.box.cell 3
    simp at q3
    have HR := hid hr
    have HVA := hid hva
    have hxs := HLM.out vl[j] (List.getElem_mem _)
    generalize hx : vl[j] = x at *
    have HX := hid hx
    have HFZ := hid hfz
    clear hnext hr hva hfz hx hl'
    go_wp2_with fail
    refine wp_region_parts [0, 2, 3, 5] [1, 4, 6, 7, 8, 9] [10] (specOf [(8, fun u w' => TVat w' wr.heap.size u x)]) (fun w' => Ext wr w') ?_ (stableC_ext _) (by kernel_rfl) (by kernel_rfl) (Keep.drew (Keep.refl _ _)) ?_
    ·exact stable_cons (fun v w w' h he => h.ext he) stable_nil
    iterate 4
     (try simp only [Act.put, sqa, sqb, sqc])
     refine pure_run rfl rfl ?_
     apply Exists.intro
     refine ⟨fun w' => ?_, ?_⟩
     ·go_simp
      rfl
    refine pure_nil ?_
    iterate 4
     (try simp only [Act.put, sqa, sqb, sqc])
     refine growP_run rfl rfl rfl ?_
     apply Exists.intro
     refine ⟨fun w' hC hK => ?_, ?_⟩
     ·have q3 := sqw hC q3
      have x0 := sqw hC x0
      have x1 := sqw hC x1
      have x2 := sqw hC x2
      have x3 := sqw hC x3
      have x4 := sqw hC x4
      go_simp
      rfl
    (try simp only [Act.put, sqa, sqb, sqc])
    refine growP_eff rfl rfl rfl (fun w' hC hK => ?_) (fun v8 hv8 => ?_)
    ·unfold growAt
     go_simp
     refine grow_call ((HIH.out x hxs (by omega) _ _ _ (HVA.out.ext hC)).mono ?_)
     intro e w'' hcp
     obtain ⟨l1, o1, rfl, h1, h2⟩ := hcp
     exact ⟨_, rfl, h2, l1, o1, rfl, TV_mono h1 hC.size (Nat.le_refl _)⟩
    obtain ⟨_, _, lv8, ov8, rfl, htv8⟩ := hv8.head
    obtain ⟨⟨A8, d8, rfl⟩, ⟨A9, d9, rfl⟩⟩ := htv8.shapes
    clear htv8
    iterate 1
     (try simp only [Act.put, sqa, sqb, sqc])
     refine growP_run rfl rfl rfl ?_
     apply Exists.intro
     refine ⟨fun w' hC hK => ?_, ?_⟩
     ·go_simp
      rfl
    refine growP_nil fun w4 hC hK => ?_
    have h8 : TV w4 x wr.heap.size w4.heap.size [U8 x.kind, .int .i64 x.n, .string x.s, .slice A8 x.l.length d8, .slice A9 x.o.length d9] := (show TVat w4 wr.heap.size (.agg (vC x A8 d8 A9 d9)) x from hK (8, _) List.mem_cons_self).get
    change wpList _ _ _ (_ :: []) _ _
    have hC' : Ext wr w4 := hC
    have hzr := HR.out.size
    have hbx := HR.out.hbx
    have hst := HR.out.step_ext hC'
    have hmx := HNX.out w4 w4.heap.size _ _ _ _ _ hC' (by omega) (fun h => by have := h.2; have := HR.out.hb1; omega) (TV_mono h8 HR.out.h3 (Nat.le_refl _)) HR.out.h1
    have HN := hid (hst.stepL rfl (Nat.le_trans HR.out.h3 hC'.size) (Nat.le_refl _) hmx)
    have y0 := (hC'.cell (lt_of_cell x0) id).trans x0
    have y1 := (hC'.cell (lt_of_cell x1) id).trans x1
    have y2 := (hC'.cell (lt_of_cell x2) id).trans x2
    have y3 := (hC'.cell (lt_of_cell x3) id).trans x3
    have y4 := (hC'.cell (lt_of_cell x4) id).trans x4
    have z0 := (hC'.frozen (p := ⟨g, j * 5, none⟩) hg2 id).trans (HFZ.out _)
    have z1 := (hC'.frozen (p := ⟨g, j * 5 + 1, none⟩) hg2 id).trans (HFZ.out _)
    have z2 := (hC'.frozen (p := ⟨g, j * 5 + 2, none⟩) hg2 id).trans (HFZ.out _)
    have z3 := (hC'.frozen (p := ⟨g, j * 5 + 3, none⟩) hg2 id).trans (HFZ.out _)
    have z4 := (hC'.frozen (p := ⟨g, j * 5 + 4, none⟩) hg2 id).trans (HFZ.out _)
    clear hC hC' hK hst hmx h8 hv8 q3 x0 x1 x2 x3 x4 hzr hbx
    (try simp only [Act.put, sqa, sqb, sqc])
    go_wp2_with fail
    refine NoPanic.normal ?_
    clear y0 y1 y2 y3 y4 z0 z1 z2 z3 z4
    go_wp2
    exact ⟨⟨j + 1, w4.heap.size, by omega, by go_num, HN.out⟩, by simp [intOf]; omega⟩
   ·obtain rfl : j = vl.length := by omega
    have HR := hid hr
    clear hr
    have q4 := HR.out.box.cell 4
    simp at q4
    go_wp2_with fail
    clear q4
    go_loopw [33] (fun i wr => ∃ (j m2 : Nat), j ≤ vo.length ∧ i = .int .i64 j ∧ CopyLT w wr (fun k => S k ∧ k < w.heap.size) w.heap.size b1 B m1 m2 (U8 kk) (.int .i64 nn) (.string ss) (.slice A2 vl.length c2) (.slice A5 vo.length c5) vl vo vl.length j) (fun i _ => vo.length - (intOf i).toNat)
    case atStart => exact ⟨0, m1, by omega, rfl, HR.out⟩
    case round =>
     clear HR
     obtain ⟨j, m2, hj, rfl, hr⟩ := hrel
     by_cases hlt : j < vo.length
     ·obtain ⟨g, cap, a0, b0, c0, d0, e0, hlv, hg1, hg2, hva, ⟨x0, x1, x2, x3, x4⟩, hfz, hnext⟩ := hr.o.nextF hlt
      injection hlv with hA hl' hc
      subst hA hc
      have hgB := hr.go g rfl
      have HNX := hid hnext
      have q4 := hr.box.cell 4
      simp at q4
      have HR := hid hr
      have HVA := hid hva
      have hxs := HOM.out vo[j] (List.getElem_mem _)
      generalize hx : vo[j] = x at *
      have HFZ := hid hfz
      clear hnext hr hva hfz hx hl'
      go_wp2_with fail
      refine wp_region_parts [0, 2, 3, 5] [1, 4, 6, 7, 8, 9, 10, 11] [12] (specOf [(9, fun u w' => TVat w' wr.heap.size u x.v)]) (fun w' => Ext wr w') ?_ (stableC_ext _) (by kernel_rfl) (by kernel_rfl) (Keep.drew (Keep.refl _ _)) ?_
      ·exact stable_cons (fun v w w' h he => h.ext he) stable_nil
      iterate 4
       (try simp only [Act.put, sqa, sqb, sqc])
       refine pure_run rfl rfl ?_
       apply Exists.intro
       refine ⟨fun w' => ?_, ?_⟩
       ·go_simp
        rfl
      refine pure_nil ?_
      iterate 5
       (try simp only [Act.put, sqa, sqb, sqc])
       refine growP_run rfl rfl rfl ?_
       apply Exists.intro
       refine ⟨fun w' hC hK => ?_, ?_⟩
       ·have q4 := sqw hC q4
        have x0 := sqw hC x0
        have x1 := sqw hC x1
        have x2 := sqw hC x2
        have x3 := sqw hC x3
        have x4 := sqw hC x4
        go_simp
        rfl
      (try simp only [Act.put, sqa, sqb, sqc])
      refine growP_eff rfl rfl rfl (fun w' hC hK => ?_) (fun v8 hv8 => ?_)
      ·unfold growAt
       go_simp
       refine grow_call ((HIH.out x.v hxs (by omega) _ _ _ (HVA.out.ext hC)).mono ?_)
       intro e w'' hcp
       obtain ⟨l1, o1, rfl, h1, h2⟩ := hcp
       exact ⟨_, rfl, h2, l1, o1, rfl, TV_mono h1 hC.size (Nat.le_refl _)⟩
      obtain ⟨_, _, lv8, ov8, rfl, htv8⟩ := hv8.head
      obtain ⟨⟨A8, d8, rfl⟩, ⟨A9, d9, rfl⟩⟩ := htv8.shapes
      clear htv8
      iterate 2
       (try simp only [Act.put, sqa, sqb, sqc])
       refine growP_run rfl rfl rfl ?_
       apply Exists.intro
       refine ⟨fun w' hC hK => ?_, ?_⟩
       ·go_simp
        rfl
      refine growP_nil fun w4 hC hK => ?_
      have h8 : TV w4 x.v wr.heap.size w4.heap.size [U8 x.v.kind, .int .i64 x.v.n, .string x.v.s, .slice A8 x.v.l.length d8, .slice A9 x.v.o.length d9] := (show TVat w4 wr.heap.size (.agg (vC x.v A8 d8 A9 d9)) x.v from hK (9, _) List.mem_cons_self).get
      change wpList _ _ _ (_ :: []) _ _
      have hC' : Ext wr w4 := hC
      have hzr := HR.out.size
      have hbx := HR.out.hbx
      have hst := HR.out.step_ext hC'
      have hmx := HNX.out w4 w4.heap.size _ _ _ _ _ hC' (by have := HR.out.h1; omega) (fun h => by have := h.2; have := HR.out.hb1; omega) (TV_mono h8 HR.out.h3 (Nat.le_refl _)) HR.out.h2
      have HN := hid (hst.stepO rfl (Nat.le_trans HR.out.h3 hC'.size) (Nat.le_refl _) hmx)
      have y0 := (hC'.cell (lt_of_cell x0) id).trans x0
      have y1 := (hC'.cell (lt_of_cell x1) id).trans x1
      have y2 := (hC'.cell (lt_of_cell x2) id).trans x2
      have y3 := (hC'.cell (lt_of_cell x3) id).trans x3
      have y4 := (hC'.cell (lt_of_cell x4) id).trans x4
      have z0 := (hC'.frozen (p := ⟨g, j * 6 + 1, none⟩) hg2 id).trans (HFZ.out _)
      have z1 := (hC'.frozen (p := ⟨g, j * 6 + 2, none⟩) hg2 id).trans (HFZ.out _)
      have z2 := (hC'.frozen (p := ⟨g, j * 6 + 3, none⟩) hg2 id).trans (HFZ.out _)
      have z3 := (hC'.frozen (p := ⟨g, j * 6 + 4, none⟩) hg2 id).trans (HFZ.out _)
      have z4 := (hC'.frozen (p := ⟨g, j * 6 + 5, none⟩) hg2 id).trans (HFZ.out _)
      clear hC hC' hK hst hmx h8 hv8 q4 x0 x1 x2 x3 x4 hzr hbx
      (try simp only [Act.put, sqa, sqb, sqc])
      go_wp2_with fail
      refine NoPanic.normal ?_
      clear y0 y1 y2 y3 y4 z0 z1 z2 z3 z4
      go_wp2
      exact ⟨⟨j + 1, w4.heap.size, by omega, by go_num, HN.out⟩, by simp [intOf]; omega⟩
     ·obtain rfl : j = vo.length := by omega
      have HR := hid hr
      clear hr
      obtain ⟨q0, q1, q2, q3, q4⟩ := sq5 HR.out.box
      obtain ⟨r0, r1, r2, r3, r4⟩ := sq5 HR.out.res
      obtain ⟨s0, s1, s2, s3, s4⟩ := sqf5 HR.out.res
      have hk := set5_keep wr (w.heap.size + 1) 0 (U8 kk) (.int .i64 nn) (.string ss) (.slice A2 vl.length c2) (.slice A5 vo.length c5)
      have hbr : Blk (set5 wr (w.heap.size + 1) 0 (U8 kk) (.int .i64 nn) (.string ss) (.slice A2 vl.length c2) (.slice A5 vo.length c5)) (w.heap.size + 1) TVAL #[U8 kk, .int .i64 nn, .string ss, .slice A2 vl.length c2, .slice A5 vo.length c5] := by
       have := ((((HR.out.res.set_ 0 (U8 kk)).set_ (0 + 1) (.int .i64 nn)).set_ (0 + 2) (.string ss)).set_ (0 + 3) (.slice A2 vl.length c2)).set_ (0 + 4) (.slice A5 vo.length c5)
       simpa using this
      have hb1' := HR.out.hb1
      have hS' := HR.out.hS
      have hBs := HR.out.size
      have hz2 := HZ2.out
      have hbx' := HR.out.hbx
      have hh1 := HR.out.h1
      have hh2 := HR.out.h2
      have hh3 := HR.out.h3
      obtain ⟨cl, hcl1, hcl2⟩ := HR.out.l.done TVs.okR HR.out.h1 (b := B) HR.out.gl fun cs h => (TVs_le _ _ _ _ h).2
      obtain ⟨co, hco1, hco2⟩ := HR.out.o.done TFs.okR HR.out.h2 (b := B) HR.out.go fun cs h => (TFs_le _ _ _ _ h).2
      have hlt1 := hbr.lt
      have hout : CopyT w v (.returned (.agg #[U8 kk, .int .i64 nn, .string ss, .slice A2 vl.length c2, .slice A5 vo.length c5])) (set5 wr (w.heap.size + 1) 0 (U8 kk) (.int .i64 nn) (.string ss) (.slice A2 vl.length c2) (.slice A5 vo.length c5)) := by
       rw [HEQ.out]
       refine ⟨_, _, rfl, ?_, HR.out.ext.trans hk fun q hq e => by omega⟩
       refine TV_mono (a := b1) (b := m2) ?_ (by omega) (Nat.le_trans hh3 hk.size)
       show TV _ (.mk kk nn ss vl vo) b1 m2 [U8 kk, .int .i64 nn, .string ss, .slice A2 vl.length c2, .slice A5 vo.length c5]
       rw [TV]
       exact ⟨_, _, cl, co, B, m1, rfl, by omega, hcl1.keep hk (fun q _ _ e => by omega), hco1.keep hk (fun q _ _ e => by omega), TVs_keep hk _ _ _ _ (fun q _ _ e => by omega) hcl2, TFs_keep hk _ _ _ _ (fun q _ _ e => by omega) hco2⟩
      have HOUT := hid hout
      obtain ⟨t0, t1, t2, t3, t4⟩ := sq5 hbr
      have HT := hid (And.intro t0 (And.intro t1 (And.intro t2 (And.intro t3 t4))))
      clear t0 t1 t2 t3 t4 hcl1 hcl2 hco1 hco2 hbr hk hout
      go_wp2
      obtain ⟨t0, t1, t2, t3, t4⟩ := HT.out
      refine bodyPost_ret (v := .agg #[U8 kk, .int .i64 nn, .string ss, .slice A2 vl.length c2, .slice A5 vo.length c5]) ?_ rfl HOUT.out
      simp [results, Tryd.results33, go_sem, t0, t1, t2, t3, t4]
theorem child_size {v y : V} {loc : Loc} (h : v.child? loc = some y) : y.size ≤ v.size := by
 rw [V.size_eq v]
 cases loc with
 | l i =>
  rw [child_l] at h
  have := V.sizes_mem (List.mem_of_getElem? h)
  omega
 | o k =>
  rw [child_o] at h
  cases hf : v.o[k]? with
  | none => rw [hf] at h; cases h
  | some f =>
   rw [hf] at h
   obtain rfl : f.v = y := by simpa using h
   have := F.sizes_mem (List.mem_of_getElem? hf)
   omega
theorem getV_size : ∀ (p : List St) (v y : V), getV v p = some y → y.size ≤ v.size
 | [], v, y, h => by simp only [getV, Option.some.injEq] at h; subst h; exact Nat.le_refl _
 | s :: p, v, y, h => by
  simp only [getV] at h
  cases h1 : stepV v s with
  | none => rw [h1] at h; cases h
  | some loc =>
   rw [h1] at h
   simp only at h
   cases h2 : v.child? loc with
   | none => rw [h2] at h; cases h
   | some z =>
    rw [h2] at h
    exact Nat.le_trans (getV_size p z y h) (child_size h2)
end Go.Proofs.YtggkidnlmaindaaDoor
