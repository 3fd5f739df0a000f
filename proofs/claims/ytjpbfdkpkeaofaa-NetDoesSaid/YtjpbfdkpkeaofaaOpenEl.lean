/- From the readings of arguments to slices of structs. -/
import Derived.Test.YtjpbfdkpkeaofaaOpen
import Derived.Test.YtjpbfdkpkeaofaaData
import Derived.Deep.Slices
import Derived.Deep.Fields
import Derived.ChangeArms
set_option linter.unusedSimpArgs false
set_option linter.unusedVariables false
namespace Go.Proofs.Ytjpbfdkpkeaofaa
open Go.ChangeShapes Go.WideShapes Go.ChangeAt Go.RowKit Go.Deep

theorem bytesS_of {w : World} {v : Value} {l : List UInt8} (h : Bytes w w.heap.size v l) : BytesS w (fun k => k < w.heap.size) v l := by
  obtain ⟨A, c, rfl, h1, h2, h3⟩ := h.open_
  refine ⟨l.map U8, ⟨by simp [EU8], A, c, rfl, h1, h2, fun hn => ?_⟩, U8_cells l⟩
  obtain ⟨b, off, e, hb, hc⟩ := h3 hn
  refine ⟨b, off, e, hb, hb, fun j u hu => ?_⟩
  obtain ⟨hj, rfl⟩ := List.getElem?_eq_some_iff.1 hu
  have hj' : j < l.length := by simpa using hj
  rw [hc j hj']
  simp [List.getD, hj', U8]

/-- A row read one element after the other. -/
theorem cells_build {α : Type} {E : El α} (hE : E.Ok) {w : World} {S : BS} {b off : Nat} : ∀ (n : Nat), (∀ i, i < n → ∃ (x : α) (c0 : List Value), E.rd w S c0 x ∧ ∀ j u, c0[j]? = some u → w.cell? ⟨b, off + (i * E.size + j), none⟩ = some u) →
    ∃ (l : List α) (cs : List Value), l.length = n ∧ Cells E w S cs l ∧ ∀ k u, cs[k]? = some u → w.cell? ⟨b, off + k, none⟩ = some u
  | 0, _ => ⟨[], [], rfl, rfl, fun k u h => by simp at h⟩
  | n + 1, h => by
    obtain ⟨l, cs, hl, hc, hk⟩ := cells_build hE n fun i hi => h i (by omega)
    obtain ⟨x, c0, hx, h0⟩ := h n (by omega)
    refine ⟨l ++ [x], cs ++ c0, by simp [hl], hc.append (Cells.single hx), fun k u hu => ?_⟩
    have hcl := hc.len hE
    rcases Nat.lt_or_ge k cs.length with h1 | h1
    · rw [List.getElem?_append_left h1] at hu; exact hk k u hu
    · rw [List.getElem?_append_right h1] at hu
      have := h0 _ u hu
      rwa [show n * E.size + (k - cs.length) = k from by rw [hcl, hl] at h1 ⊢; omega] at this

section
variable {H : Type} {enc : TypeId × Value → H} {P : Program} {W : World}
/-- A slice of structs of one-cell fields. -/
theorem sl_of_trod {α : Type} {E : El α} (hE : E.Ok) {t e : TypeId} {fs : Array Field} {spare : Nat → Bool} {held : Bool} {v : Value} {d : DataW H} {p : List MemPlace} (ht : P.underlying t = some (.slice e)) (he : P.underlying e = some (.struct fs))
    (hone : oneCellFields P fs = true) (hC : P.cellsOf e = fs.size) (hs : E.size = fs.size) (hv : ∃ a len cap, v = .slice a len cap) (h : DataW.Trod enc P W 0 spare held t v d p)
    (hx : ∀ (cs : List Value), cs.length = fs.size → (∀ (j : Nat) (f : Field), fs[j]? = some f → ∃ (u : Value) (n : Nat) (y : DataW H × List MemPlace), cs[j]? = some u ∧ DataW.trod enc P W 0 spare held n f.type [u] = some y) →
      ∃ x, E.rd W (fun k => k < W.heap.size) cs x) : ∃ l : List α, Sl E W (fun k => k < W.heap.size) v l := by
  obtain ⟨a, len, cap, rfl⟩ := hv
  obtain ⟨fuel, hf⟩ := h
  rcases open_slice ht hf with ⟨h0, _⟩ | ⟨x, len', cap', m, n, D, Pl, hcs, _, hl, hm, hmm, _, hi⟩
  · simp [Value.cells] at h0
    obtain ⟨rfl, rfl, rfl⟩ := h0
    exact ⟨[], Sl.nil _ _⟩
  · simp [Value.cells] at hcs
    obtain ⟨rfl, rfl, rfl⟩ := hcs
    have hlen : len ≤ m := by rw [hmm]; split <;> omega
    have hpos : 0 < fs.size := by rw [← hs]; exact hE.pos
    have key : ∀ i, i < len → ∃ (y : α) (c0 : List Value), E.rd W (fun k => k < W.heap.size) c0 y ∧ ∀ j, j < fs.size → W.cell? (x.add (i * fs.size + j)) = c0[j]? := fun i hil => by
      obtain ⟨cs', hc, ht'⟩ := hi i (by omega)
      rw [hC] at hc
      obtain ⟨_, hcl, hat⟩ := World.cells?_some hc
      obtain ⟨ys, n', _, _, _, hyl, hfl⟩ := DataW.trod_struct he ht'
      obtain ⟨y, hy⟩ := hx cs' hcl fun j f hj => by
        obtain ⟨ho, hk⟩ := hone_of hone j f hj
        have hjl : j < fs.size := (Array.getElem?_eq_some_iff.1 hj).1
        have h1 := hfl j f hj
        rw [ho, hk, List.drop_eq_getElem_cons (by omega)] at h1
        exact ⟨cs'[j]'(by omega), n', ys[j]'(by omega), List.getElem?_eq_getElem (by omega), h1.trans (List.getElem?_eq_getElem (by omega))⟩
      exact ⟨y, cs', hy, fun j hj => by rw [← add_add]; exact hat j hj⟩
    rcases Nat.eq_zero_or_pos len with h0 | h0
    · subst h0
      exact ⟨[], [], ⟨by simp, some x, cap, rfl, by simp, hm, fun h => by simp at h⟩, rfl⟩
    · obtain ⟨y0, c0, hr0, hc0⟩ := key 0 h0
      have hl0 := hE.len hr0
      have hcell0 : W.cell? (x.add (0 * fs.size + 0)) = some (c0[0]'(by omega)) := by rw [hc0 0 hpos]; exact List.getElem?_eq_getElem _
      have hsp := spot_of_cell (by simpa [Addr.add] using hcell0)
      obtain ⟨b, off, sp⟩ := x
      simp at hsp
      subst hsp
      have hadd : ∀ k, (⟨b, off, none⟩ : Addr).add k = ⟨b, off + k, none⟩ := fun k => add_cell rfl
      have hlt := lt_of_cell (by rw [hadd] at hcell0; exact hcell0)
      obtain ⟨l, cs, hll, hcc, hcell⟩ := cells_build (w := W) (S := fun k => k < W.heap.size) (b := b) (off := off) hE len fun i hi => by
        obtain ⟨y, c1, hr, hc⟩ := key i hi
        refine ⟨y, c1, hr, fun j u hu => ?_⟩
        have hj : j < fs.size := by have := hE.len hr; have := (List.getElem?_eq_some_iff.1 hu).1; omega
        have := hc j hj
        rw [hadd, hu, ← hs] at this
        exact this
      refine ⟨l, cs, ⟨hcc.len hE, some ⟨b, off, none⟩, cap, by rw [hll], by omega, hm, fun _ => ⟨b, off, rfl, hlt, hlt, fun j u hu => hcell j u hu⟩⟩, hcc⟩
end
end Go.Proofs.Ytjpbfdkpkeaofaa
