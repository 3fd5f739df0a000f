/- Values and fields overwritten in a row of the call's own. -/
import Derived.Test.YtggkidnlmaindaaDoorValA
set_option linter.unusedSimpArgs false
set_option linter.unusedVariables false
namespace Go.Proofs.YtggkidnlmaindaaDoor
open Go.RowKit
set_option linter.unusedVariables false

abbrev set5 (w : World) (g o : Nat) (a b c d e : Value) : World := ((((w.setCell ⟨g, o, none⟩ a).setCell ⟨g, o + 1, none⟩ b).setCell ⟨g, o + 2, none⟩ c).setCell ⟨g, o + 3, none⟩ d).setCell ⟨g, o + 4, none⟩ e
theorem set5_keep (w : World) (g o : Nat) (a b c d e : Value) : Keep (· = g) w (set5 w g o a b c d e) := (((((Keep.refl (· = g) w).set1 o a).set1 (o + 1) b).set1 (o + 2) c).set1 (o + 3) d).set1 (o + 4) e
theorem set5_blk {w : World} {g : Nat} {T : TypeId} {cur : Array Value} (h : Blk w g T cur) (o : Nat) (a b c d e : Value) (ho : o + 5 ≤ cur.size) :
    ∃ cur', Blk (set5 w g o a b c d e) g T cur' ∧ cur'.toList = cur.toList.take o ++ [a, b, c, d, e] ++ cur.toList.drop (o + 5) := by
  refine ⟨_, ((((h.set_ o a).set_ (o + 1) b).set_ (o + 2) c).set_ (o + 3) d).set_ (o + 4) e, ?_⟩
  simp only [Array.toList_setIfInBounds]
  exact list_five _ _ _ _ _ _ _ (by simpa using ho)

section
variable {w : World} {S1 S0 : BS} {base : Nat} {T : TypeId} {v : Value} {j : Nat}
theorem Mix.nextV {xs : List V} (h : Mix EVal w base T S1 S0 v xs j) (hj : j < xs.length) :
    ∃ g cap a b c d e, v = .slice (some ⟨g, 0, none⟩) xs.length cap ∧ base ≤ g ∧ g < w.heap.size ∧ VAt w S0 (.agg #[a, b, c, d, e]) xs[j] ∧
      (w.cell? ⟨g, j * 5, none⟩ = some a ∧ w.cell? ⟨g, j * 5 + 1, none⟩ = some b ∧ w.cell? ⟨g, j * 5 + 2, none⟩ = some c ∧ w.cell? ⟨g, j * 5 + 3, none⟩ = some d ∧ w.cell? ⟨g, j * 5 + 4, none⟩ = some e) ∧ (∀ i, w.frozen? ⟨g, i, none⟩ = false) ∧
      ∀ (w' : World) (S2 : BS) (a b c d e : Value), Ext w w' → ¬ S1 g → ¬ S0 g → VAt w' S2 (.agg #[a, b, c, d, e]) xs[j] → (∀ k, S2 k → S1 k) → Mix EVal (set5 w' g (j * 5) a b c d e) base T S1 S0 v xs (j + 1) := by
  obtain ⟨g, cap, c0, h1, h2, h3, h4, h5, h6, h7⟩ := h.next EVal.ok hj
  obtain ⟨lv, ov, rfl, hl, ho⟩ := rdV_iff.1 h4
  refine ⟨g, cap, _, _, _, _, _, h1, h2, h3, ⟨_, _, rfl, hl, ho⟩, ⟨h5 0 _ rfl, h5 1 _ rfl, h5 2 _ rfl, h5 3 _ rfl, h5 4 _ rfl⟩, h6, fun w' S2 a b c d e hE hS1 hS0 hv hS => ?_⟩
  refine h7 w' _ [a, b, c, d, e] hE (set5_keep _ _ _ _ _ _ _ _) hS1 hS0 ?_ fun cur hb hle _ => set5_blk hb _ _ _ _ _ _ hle
  exact EVal.ok.more (EVal.ok.keep hv.rd (set5_keep _ _ _ _ _ _ _ _) (fun k hk e => hS1 (e ▸ hS k hk))) (fun k _ => hS k)
theorem Mix.nextF {xs : List F} (h : Mix EField w base T S1 S0 v xs j) (hj : j < xs.length) :
    ∃ g cap a b c d e, v = .slice (some ⟨g, 0, none⟩) xs.length cap ∧ base ≤ g ∧ g < w.heap.size ∧ VAt w S0 (.agg #[a, b, c, d, e]) xs[j].v ∧
      (w.cell? ⟨g, j * 6 + 1, none⟩ = some a ∧ w.cell? ⟨g, j * 6 + 2, none⟩ = some b ∧ w.cell? ⟨g, j * 6 + 3, none⟩ = some c ∧ w.cell? ⟨g, j * 6 + 4, none⟩ = some d ∧ w.cell? ⟨g, j * 6 + 5, none⟩ = some e) ∧ (∀ i, w.frozen? ⟨g, i, none⟩ = false) ∧
      ∀ (w' : World) (S2 : BS) (a b c d e : Value), Ext w w' → ¬ S1 g → ¬ S0 g → VAt w' S2 (.agg #[a, b, c, d, e]) xs[j].v → (∀ k, S2 k → S1 k) → Mix EField (set5 w' g (j * 6 + 1) a b c d e) base T S1 S0 v xs (j + 1) := by
  obtain ⟨g, cap, c0, h1, h2, h3, h4, h5, h6, h7⟩ := h.next EField.ok hj
  obtain ⟨c1, rfl, h41⟩ := rdF_iff.1 h4
  obtain ⟨lv, ov, rfl, hl, ho⟩ := rdV_iff.1 h41
  refine ⟨g, cap, _, _, _, _, _, h1, h2, h3, ⟨_, _, rfl, hl, ho⟩, ⟨h5 1 _ rfl, h5 2 _ rfl, h5 3 _ rfl, h5 4 _ rfl, h5 5 _ rfl⟩, h6, fun w' S2 a b c d e hE hS1 hS0 hv hS => ?_⟩
  refine h7 w' _ (.string xs[j].key :: [a, b, c, d, e]) hE (set5_keep _ _ _ _ _ _ _ _) hS1 hS0 ?_ fun cur hb hle hc0 => ?_
  · exact rdF_iff.2 ⟨_, rfl, EVal.ok.more (EVal.ok.keep hv.rd (set5_keep _ _ _ _ _ _ _ _) (fun k hk e => hS1 (e ▸ hS k hk))) (fun k _ => hS k)⟩
  · have hle' : j * 6 + 6 ≤ cur.size := hle
    obtain ⟨cur', hb', he'⟩ := set5_blk hb (j * 6 + 1) a b c d e (by omega)
    refine ⟨cur', hb', ?_⟩
    have hc0' : .string xs[j].key :: [U8 xs[j].v.kind, .int .i64 xs[j].v.n, .string xs[j].v.s, lv, ov] = (cur.toList.drop (j * 6)).take 6 := hc0
    have hg : cur.toList[j * 6]? = some (.string xs[j].key) := by
      have : ((cur.toList.drop (j * 6)).take 6)[0]? = some (.string xs[j].key) := by rw [← hc0']; rfl
      rw [List.getElem?_take_of_lt (by omega), List.getElem?_drop] at this
      simpa using this
    rw [he']
    show cur.toList.take (j * 6 + 1) ++ [a, b, c, d, e] ++ cur.toList.drop (j * 6 + 6) = cur.toList.take (j * 6) ++ (.string xs[j].key :: [a, b, c, d, e]) ++ cur.toList.drop (j * 6 + 6)
    have : cur.toList.take (j * 6 + 1) = cur.toList.take (j * 6) ++ [.string xs[j].key] := by
      rw [List.take_add_one, hg]; rfl
    rw [this]; simp
end

/-- A copy under way: the boxed value, the result's box, the two rows. -/
structure CopyL (w wr : World) (S : BS) (bx b1 B : Nat) (k0 n0 s0 lv ov : Value) (vl : List V) (vo : List F) (j i : Nat) : Prop where
  ext : Ext w wr
  size : B ≤ wr.heap.size
  box : Blk wr bx TVAL #[k0, n0, s0, lv, ov]
  res : Blk wr (bx + 1) TVAL #[.int .u8 0, .int .i64 0, .string ⟨#[]⟩, .slice none 0 0, .slice none 0 0]
  l : Mix EVal wr b1 TVAL (fun q => B ≤ q) S lv vl j
  o : Mix EField wr b1 TFIELD (fun q => B ≤ q) S ov vo i
  ne : ∀ g, lv.ownBlock = some g → ov.ownBlock ≠ some g
  hb1 : bx + 2 ≤ b1
  hbx : w.heap.size = bx
  hS : ∀ q, S q → q < w.heap.size
  gl : ∀ g, lv.ownBlock = some g → g < B
  go : ∀ g, ov.ownBlock = some g → g < B

section
variable {w wr : World} {S : BS} {bx b1 B : Nat} {k0 n0 s0 lv ov : Value} {vl : List V} {vo : List F} {j i : Nat}
theorem CopyL.step_ext {w' : World} (h : CopyL w wr S bx b1 B k0 n0 s0 lv ov vl vo j i) (he : Ext wr w') : CopyL w w' S bx b1 B k0 n0 s0 lv ov vl vo j i :=
  { h with ext := h.ext.ext he, size := Nat.le_trans h.size he.size, box := h.box.keep he id, res := h.res.keep he id, l := h.l.ext EVal.ok he, o := h.o.ext EField.ok he }
theorem CopyL.stepL {g cap : Nat} (h : CopyL w wr S bx b1 B k0 n0 s0 lv ov vl vo j i) {a b c d e : Value} (hlv : lv = .slice (some ⟨g, 0, none⟩) vl.length cap) (hm : Mix EVal (set5 wr g (j * 5) a b c d e) b1 TVAL (fun q => B ≤ q) S lv vl (j + 1)) :
    CopyL w (set5 wr g (j * 5) a b c d e) S bx b1 B k0 n0 s0 lv ov vl vo (j + 1) i := by
  have hk := set5_keep wr g (j * 5) a b c d e
  have hg : lv.ownBlock = some g := by rw [hlv]; rfl
  have h1 := h.l.lt hg
  have h2 := h.gl g hg
  have h3 := h.hb1
  have h4 := h.hbx
  exact { h with
    ext := h.ext.trans hk (fun q hq e => by omega), size := Nat.le_trans h.size hk.size, box := h.box.keep hk (by omega), res := h.res.keep hk (by omega), l := hm
    o := h.o.keep EField.ok hk (fun q hq e => by omega) (fun q hq e => by have := h.hS q hq; omega) (fun q hq e => by subst e; exact h.ne _ hg hq) }
theorem CopyL.stepO {g cap : Nat} (h : CopyL w wr S bx b1 B k0 n0 s0 lv ov vl vo j i) {a b c d e : Value} (hov : ov = .slice (some ⟨g, 0, none⟩) vo.length cap) (hm : Mix EField (set5 wr g (i * 6 + 1) a b c d e) b1 TFIELD (fun q => B ≤ q) S ov vo (i + 1)) :
    CopyL w (set5 wr g (i * 6 + 1) a b c d e) S bx b1 B k0 n0 s0 lv ov vl vo j (i + 1) := by
  have hk := set5_keep wr g (i * 6 + 1) a b c d e
  have hg : ov.ownBlock = some g := by rw [hov]; rfl
  have h1 := h.o.lt hg
  have h2 := h.go g hg
  have h3 := h.hb1
  have h4 := h.hbx
  exact { h with
    ext := h.ext.trans hk (fun q hq e => by omega), size := Nat.le_trans h.size hk.size, box := h.box.keep hk (by omega), res := h.res.keep hk (by omega), o := hm
    l := h.l.keep EVal.ok hk (fun q hq e => by omega) (fun q hq e => by have := h.hS q hq; omega) (fun q hq e => by subst e; exact h.ne _ hq hg) }
end
end Go.Proofs.YtggkidnlmaindaaDoor
