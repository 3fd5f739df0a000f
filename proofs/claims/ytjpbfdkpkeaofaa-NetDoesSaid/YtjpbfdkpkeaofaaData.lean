/- Data in memory: elements of some cells each, slices of them, rows of the call's own. 'S': the blocks in which the data may lie. No program. -/
import Derived.Test.YtjpbfdkpkeaofaaBase
import Derived.Laws.OwnMore
import Derived.Deep.AppendLies
import Derived.Maps.AppendAt
set_option linter.unusedSimpArgs false
set_option linter.unusedVariables false
namespace Go.Proofs.Ytjpbfdkpkeaofaa
open Go.RowKit

abbrev BS := Nat → Prop

/-- A kind of element: how many cells; when cells read as a datum. -/
structure El (α : Type) where
  size : Nat
  rd : World → BS → List Value → α → Prop

structure El.Ok {α : Type} (E : El α) : Prop where
  pos : 0 < E.size
  len : ∀ {w S cs x}, E.rd w S cs x → cs.length = E.size
  one : ∀ {w S cs x}, E.rd w S cs x → ∀ u ∈ cs, u.oneCell' = true
  keep : ∀ {F w w' S cs x}, E.rd w S cs x → Keep F w w' → (∀ k, S k → ¬ F k) → E.rd w' S cs x
  more : ∀ {w S S' cs x}, E.rd w S cs x → (∀ k, k < w.heap.size → S k → S' k) → E.rd w S' cs x

/-- A slice over these cells. -/
def RowS (w : World) (S : BS) (sz : Nat) (v : Value) (n : Nat) (cs : List Value) : Prop :=
  cs.length = n * sz ∧ ∃ A c, v = .slice A n c ∧ n ≤ c ∧ c ≤ maxLen ∧
    (0 < n → ∃ b off, A = some ⟨b, off, none⟩ ∧ S b ∧ b < w.heap.size ∧ ∀ j u, cs[j]? = some u → w.cell? ⟨b, off + j, none⟩ = some u)

section
variable {F : Nat → Prop} {w w' : World} {S S' : BS} {sz n : Nat} {v : Value} {cs : List Value}
theorem RowS.keep (h : RowS w S sz v n cs) (hk : Keep F w w') (hF : ∀ k, S k → ¬ F k) : RowS w' S sz v n cs := by
  obtain ⟨h0, A, c, rfl, h1, h2, h3⟩ := h
  refine ⟨h0, A, c, rfl, h1, h2, fun hn => ?_⟩
  obtain ⟨b, off, rfl, hb, hlt, hc⟩ := h3 hn
  exact ⟨b, off, rfl, hb, Nat.lt_of_lt_of_le hlt hk.size, fun i u hu => (hk.cell hlt (hF b hb)).trans (hc i u hu)⟩
theorem RowS.more (h : RowS w S sz v n cs) (hS : ∀ k, k < w.heap.size → S k → S' k) : RowS w S' sz v n cs := by
  obtain ⟨h0, A, c, rfl, h1, h2, h3⟩ := h
  exact ⟨h0, A, c, rfl, h1, h2, fun hn => by obtain ⟨b, off, e, hb, hlt, hc⟩ := h3 hn; exact ⟨b, off, e, hS b hlt hb, hlt, hc⟩⟩
theorem RowS.ext (h : RowS w S sz v n cs) (hk : Ext w w') : RowS w' S sz v n cs := h.keep hk fun _ _ x => x
theorem RowS.nil (w : World) (S : BS) (sz : Nat) : RowS w S sz (.slice none 0 0) 0 [] := ⟨by simp, none, 0, rfl, by simp, by simp [maxLen], fun h => by simp at h⟩
/-- A new block as a row. -/
theorem RowS.new {t : TypeId} (hn : cs.length = n * sz) (hl : n ≤ maxLen) (f : Nat × Nat := (0, 0)) : RowS (w.alloc (.cells cs.toArray t f)) (fun k => k = w.heap.size) sz (.slice (some ⟨w.heap.size, 0, none⟩) n n) n cs :=
  ⟨hn, _, _, rfl, Nat.le_refl _, hl, fun _ => ⟨w.heap.size, 0, rfl, rfl, by simp, fun i u hu => by rw [cell_of_row _ _ _ _ _ _ (heap_alloc_new w _)]; simpa using hu⟩⟩
/-- A cut 's[lo:hi]', as the walk spells it. -/
theorem RowS.cut {A : Option Addr} {c : Nat} (h : RowS w S sz (.slice A n c) n cs) {lo hi : Nat} (h1 : lo ≤ hi) (h2 : hi ≤ n) :
    RowS w S sz (.slice (if c = lo then A else A.map (·.add (lo * sz))) (hi - lo) (c - lo)) (hi - lo) ((cs.take (hi * sz)).drop (lo * sz)) := by
  obtain ⟨h0, A', c', e, hlc, hcm, hrow⟩ := h
  injection e with e1 _ e3
  subst e1 e3
  have e1 : hi * sz ≤ cs.length := by rw [h0]; exact Nat.mul_le_mul_right _ h2
  have e2 : lo * sz ≤ hi * sz := Nat.mul_le_mul_right _ h1
  refine ⟨by rw [List.length_drop, List.length_take, Nat.min_eq_left e1, Nat.sub_mul], _, _, rfl, by omega, by omega, fun hn => ?_⟩
  obtain ⟨b, off, rfl, hb, hlt, hc⟩ := hrow (by omega)
  rw [if_neg (by omega)]
  refine ⟨b, off + lo * sz, ?_, hb, hlt, fun i u hu => ?_⟩
  · simp only [Option.map_some, Addr.add]
    split
    · rename_i h0; rw [h0]; rfl
    · rfl
  · rw [Nat.add_assoc]
    apply hc
    rw [List.getElem?_drop] at hu
    have : lo * sz + i < hi * sz := by
      rcases Nat.lt_or_ge (lo * sz + i) (hi * sz) with h | h
      · exact h
      · rw [List.getElem?_eq_none (by simp; omega)] at hu; cases hu
    rw [List.getElem?_take_of_lt this] at hu
    exact hu
theorem RowS.front {A : Option Addr} {c : Nat} (h : RowS w S sz (.slice A n c) n cs) {hi : Nat} (h2 : hi ≤ n) : RowS w S sz (.slice A hi c) hi (cs.take (hi * sz)) := by
  obtain ⟨h0, A', c', e, hlc, hcm, hrow⟩ := h
  injection e with e1 _ e3
  subst e1 e3
  have e1 : hi * sz ≤ cs.length := by rw [h0]; exact Nat.mul_le_mul_right _ h2
  refine ⟨by rw [List.length_take, Nat.min_eq_left e1], A, c, rfl, by omega, hcm, fun hn => ?_⟩
  obtain ⟨b, off, e, hb, hlt, hc⟩ := hrow (by omega)
  refine ⟨b, off, e, hb, hlt, fun i u hu => hc i u ?_⟩
  rcases Nat.lt_or_ge i (hi * sz) with h | h
  · rw [List.getElem?_take_of_lt h] at hu; exact hu
  · rw [List.getElem?_eq_none (by simp; omega)] at hu; cases hu
end

/-- The cells of elements, one behind the other. -/
def Cells {α : Type} (E : El α) (w : World) (S : BS) : List Value → List α → Prop
  | cs, [] => cs = []
  | cs, x :: xs => ∃ c0 c1, cs = c0 ++ c1 ∧ E.rd w S c0 x ∧ Cells E w S c1 xs

section
variable {α : Type} {E : El α} (hE : E.Ok) {F : Nat → Prop} {w w' : World} {S S' : BS}
include hE
theorem Cells.len : ∀ {cs : List Value} {xs : List α}, Cells E w S cs xs → cs.length = xs.length * E.size
  | cs, [], h => by have : cs = [] := h; subst this; simp
  | cs, x :: xs, ⟨c0, c1, e, h0, h1⟩ => by subst e; rw [List.length_append, hE.len h0, Cells.len h1, List.length_cons, Nat.succ_mul, Nat.add_comm]
theorem Cells.one : ∀ {cs : List Value} {xs : List α}, Cells E w S cs xs → ∀ u ∈ cs, u.oneCell' = true
  | cs, [], h, u, hu => by have : cs = [] := h; subst this; cases hu
  | cs, x :: xs, ⟨c0, c1, e, h0, h1⟩, u, hu => by
    subst e
    rcases List.mem_append.1 hu with h | h
    · exact hE.one h0 u h
    · exact Cells.one h1 u h
theorem Cells.keep (hk : Keep F w w') (hF : ∀ k, S k → ¬ F k) : ∀ {cs : List Value} {xs : List α}, Cells E w S cs xs → Cells E w' S cs xs
  | _, [], h => h
  | _, _ :: _, ⟨c0, c1, e, h0, h1⟩ => ⟨c0, c1, e, hE.keep h0 hk hF, Cells.keep hk hF h1⟩
theorem Cells.more (hS : ∀ k, k < w.heap.size → S k → S' k) : ∀ {cs : List Value} {xs : List α}, Cells E w S cs xs → Cells E w S' cs xs
  | _, [], h => h
  | _, _ :: _, ⟨c0, c1, e, h0, h1⟩ => ⟨c0, c1, e, hE.more h0 hS, Cells.more hS h1⟩
omit hE in
theorem Cells.append : ∀ {cs ds : List Value} {xs ys : List α}, Cells E w S cs xs → Cells E w S ds ys → Cells E w S (cs ++ ds) (xs ++ ys)
  | cs, ds, [], ys, h, h' => by have : cs = [] := h; subst this; exact h'
  | _, _, _ :: _, _, ⟨c0, c1, e, h0, h1⟩, h' => ⟨c0, _, by rw [e, List.append_assoc], h0, Cells.append h1 h'⟩
omit hE in
theorem Cells.single {cs : List Value} {x : α} (h : E.rd w S cs x) : Cells E w S cs [x] := ⟨cs, [], by simp, h, rfl⟩
/-- Parted at an element. -/
theorem Cells.split : ∀ {cs : List Value} {xs : List α} (k : Nat), k ≤ xs.length → Cells E w S cs xs → Cells E w S (cs.take (k * E.size)) (xs.take k) ∧ Cells E w S (cs.drop (k * E.size)) (xs.drop k)
  | cs, xs, 0, _, h => by simp; exact ⟨rfl, h⟩
  | cs, [], k + 1, hk, h => by simp at hk
  | cs, x :: xs, k + 1, hk, ⟨c0, c1, e, h0, h1⟩ => by
    subst e
    have hl := hE.len h0
    obtain ⟨a, b⟩ := Cells.split k (by simpa using hk) h1
    have e1 : (k + 1) * E.size = c0.length + k * E.size := by rw [hl, Nat.succ_mul, Nat.add_comm]
    rw [e1, List.take_length_add_append, List.drop_length_add_append]
    exact ⟨⟨c0, _, rfl, h0, a⟩, b⟩
theorem Cells.get {cs : List Value} {xs : List α} (h : Cells E w S cs xs) {k : Nat} (hk : k < xs.length) : ∃ c0, E.rd w S c0 xs[k] ∧ ∀ j u, c0[j]? = some u → cs[k * E.size + j]? = some u := by
  obtain ⟨_, b⟩ := Cells.split hE k (by omega) h
  rw [List.drop_eq_getElem_cons hk] at b
  obtain ⟨c0, c1, e, h0, _⟩ := b
  refine ⟨c0, h0, fun j u hu => ?_⟩
  rw [← List.getElem?_drop, e, List.getElem?_append_left (List.getElem?_eq_some_iff.1 hu).1, hu]
end

/-- A slice of elements. -/
def Sl {α : Type} (E : El α) (w : World) (S : BS) (v : Value) (xs : List α) : Prop := ∃ cs, RowS w S E.size v xs.length cs ∧ Cells E w S cs xs

section
variable {α : Type} {E : El α} {F : Nat → Prop} {w w' : World} {S S' : BS} {v : Value} {xs : List α}
theorem Sl.keep (hE : E.Ok) (h : Sl E w S v xs) (hk : Keep F w w') (hF : ∀ k, S k → ¬ F k) : Sl E w' S v xs := by
  obtain ⟨cs, h1, h2⟩ := h; exact ⟨cs, h1.keep hk hF, h2.keep hE hk hF⟩
theorem Sl.ext (hE : E.Ok) (h : Sl E w S v xs) (hk : Ext w w') : Sl E w' S v xs := h.keep hE hk fun _ _ x => x
theorem Sl.more (hE : E.Ok) (h : Sl E w S v xs) (hS : ∀ k, k < w.heap.size → S k → S' k) : Sl E w S' v xs := by
  obtain ⟨cs, h1, h2⟩ := h; exact ⟨cs, h1.more hS, h2.more hE hS⟩
theorem Sl.nil (w : World) (S : BS) : Sl E w S (.slice none 0 0) [] := ⟨[], RowS.nil _ _ _, rfl⟩
theorem Sl.shape (h : Sl E w S v xs) : ∃ A c, v = .slice A xs.length c ∧ xs.length ≤ c ∧ c ≤ maxLen := by
  obtain ⟨cs, ⟨_, A, c, e, h1, h2, _⟩, _⟩ := h; exact ⟨A, c, e, h1, h2⟩
/-- One element: its cells lie there, and read as it. -/
theorem Sl.at_ (hE : E.Ok) {A : Option Addr} {c n : Nat} (h : Sl E w S (.slice A n c) xs) {k : Nat} (hk : k < xs.length) :
    ∃ b off c0, A = some ⟨b, off, none⟩ ∧ S b ∧ b < w.heap.size ∧ E.rd w S c0 xs[k] ∧ ∀ j u, c0[j]? = some u → w.cell? ⟨b, off + k * E.size + j, none⟩ = some u := by
  obtain ⟨cs, ⟨_, A', c', e, _, _, hrow⟩, hc⟩ := h
  injection e with e1 _ _
  subst e1
  obtain ⟨b, off, e, hb, hlt, hcell⟩ := hrow (by omega)
  obtain ⟨c0, h0, h1⟩ := hc.get hE hk
  exact ⟨b, off, c0, e, hb, hlt, h0, fun j u hu => by rw [Nat.add_assoc]; exact hcell _ _ (h1 j u hu)⟩
theorem Sl.cut (hE : E.Ok) {A : Option Addr} {c n : Nat} (h : Sl E w S (.slice A n c) xs) {lo hi : Nat} (h1 : lo ≤ hi) (h2 : hi ≤ xs.length) :
    Sl E w S (.slice (if c = lo then A else A.map (·.add (lo * E.size))) (hi - lo) (c - lo)) ((xs.take hi).drop lo) := by
  obtain ⟨cs, hr, hc⟩ := h
  obtain ⟨_, e⟩ : True ∧ n = xs.length := by obtain ⟨_, A', c', e, _⟩ := hr; injection e with _ e _; exact ⟨trivial, e⟩
  subst e
  have hlen : ((xs.take hi).drop lo).length = hi - lo := by simp; omega
  refine ⟨_, ?_, ((hc.split hE hi h2).1.split hE lo (by simp; omega)).2⟩
  rw [hlen]
  exact hr.cut h1 h2
theorem Sl.front (hE : E.Ok) {A : Option Addr} {c n : Nat} (h : Sl E w S (.slice A n c) xs) {hi : Nat} (h2 : hi ≤ xs.length) : Sl E w S (.slice A hi c) (xs.take hi) := by
  obtain ⟨cs, hr, hc⟩ := h
  obtain ⟨_, e⟩ : True ∧ n = xs.length := by obtain ⟨_, A', c', e, _⟩ := hr; injection e with _ e _; exact ⟨trivial, e⟩
  subst e
  refine ⟨_, ?_, (hc.split hE hi h2).1⟩
  rw [List.length_take, Nat.min_eq_left h2]
  exact hr.front h2
end

/-! ### Elements of some kinds -/
def EU8 : El UInt8 := { size := 1, rd := fun _ _ cs x => cs = [U8 x] }
theorem EU8.ok : EU8.Ok where
  pos := by decide
  len := fun h => by subst h; rfl
  one := fun h u hu => by subst h; simp at hu; subst hu; rfl
  keep := fun h _ _ => h
  more := fun h _ => h
abbrev BytesS (w : World) (S : BS) (v : Value) (l : List UInt8) : Prop := Sl EU8 w S v l
/-- A slice as an element. -/
def ESl {α : Type} (E : El α) : El (List α) := { size := 1, rd := fun w S cs xs => ∃ v, cs = [v] ∧ Sl E w S v xs }
theorem ESl.ok {α : Type} {E : El α} (hE : E.Ok) : (ESl E).Ok where
  pos := by show 0 < 1; decide
  len := fun ⟨v, h, _⟩ => by subst h; rfl
  one := fun ⟨v, h, hs⟩ u hu => by
    subst h
    obtain ⟨A, c, rfl, _⟩ := hs.shape
    simp at hu; subst hu; rfl
  keep := fun ⟨v, h, hs⟩ hk hF => ⟨v, h, hs.keep hE hk hF⟩
  more := fun ⟨v, h, hs⟩ hS => ⟨v, h, hs.more hE hS⟩
theorem U8_cells {w : World} {S : BS} : ∀ (l : List UInt8), Cells EU8 w S (l.map U8) l
  | [] => rfl
  | x :: l => ⟨[U8 x], l.map U8, rfl, rfl, U8_cells l⟩
theorem cells_U8 {w : World} {S : BS} : ∀ {cs : List Value} {l : List UInt8}, Cells EU8 w S cs l → cs = l.map U8
  | _, [], h => h
  | _, x :: l, ⟨c0, c1, e, h0, h1⟩ => by
    have h0 : c0 = [U8 x] := h0
    rw [e, h0, cells_U8 h1]; rfl
theorem bytesS_at {w : World} {S : BS} {A : Option Addr} {c n : Nat} {l : List UInt8} (h : BytesS w S (.slice A n c) l) {k : Nat} (hk : k < l.length) :
    ∃ b off, A = some ⟨b, off, none⟩ ∧ S b ∧ b < w.heap.size ∧ w.cell? ⟨b, off + k, none⟩ = some (U8 l[k]) := by
  obtain ⟨b, off, c0, e, hb, hlt, h0, h1⟩ := h.at_ EU8.ok hk
  have h0 : c0 = [U8 l[k]] := h0
  refine ⟨b, off, e, hb, hlt, ?_⟩
  have := h1 0 _ (by rw [h0]; rfl)
  simpa [EU8] using this
end Go.Proofs.Ytjpbfdkpkeaofaa
