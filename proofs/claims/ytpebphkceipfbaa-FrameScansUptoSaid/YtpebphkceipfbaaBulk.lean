/- A slice of slices as it comes in, of bulk at most so much: how many they are, how long each is. -/
import Derived.Test.YtpebphkceipfbaaRows
import Derived.Test.YtpebphkceipfbaaOpenX
set_option linter.unusedSimpArgs false
set_option linter.unusedVariables false
namespace Go.Proofs.Ytpebphkceipfbaa
open Go.ChangeShapes Go.WideShapes Go.ChangeAt Go.RowKit Go.Deep

section
variable {H : Type} {enc : TypeId × Value → H} {P : Program} {W : World} {spare : Nat → Bool} {held : Bool}
theorem bulk_one (d : DataW H) : 1 ≤ Rows.uptoBulk d := by
  cases d with
  | lit l => cases l <;> simp [Rows.uptoBulk]
  | nil => simp [Rows.uptoBulk]
  | ptr d => simp [Rows.uptoBulk]
  | slice elems spare => simp [Rows.uptoBulk]
  | agg parts => simp [Rows.uptoBulk]
  | iface t d => simp [Rows.uptoBulk]
  | map entries => simp [Rows.uptoBulk]
  | held h => simp [Rows.uptoBulk]
theorem bulk_part {d : DataW H} : ∀ {l : List (DataW H)}, d ∈ l → Rows.uptoBulk d ≤ Rows.uptoBulkAll l
  | x :: r, h => by
    simp only [Rows.uptoBulkAll]
    rcases List.mem_cons.1 h with rfl | h
    · omega
    · have := bulk_part h; omega
theorem bulk_len : ∀ l : List (DataW H), l.length ≤ Rows.uptoBulkAll l
  | [] => Nat.zero_le _
  | x :: r => by have := bulk_one x; have := bulk_len r; simp only [Rows.uptoBulkAll, List.length_cons]; omega
theorem bulk_slice {α : Type} {E : El α} {S : BS} {t e : TypeId} (ht : P.underlying t = some (.slice e)) {fuel : Nat} {v : Value} {y : DataW H × List MemPlace} (hy : DataW.trod enc P W 0 spare held fuel t [v] = some y) {l : List α} (hs : Sl E W S v l) : l.length ≤ Rows.uptoBulk y.1 := by
  obtain ⟨A, c, rfl, _, _⟩ := hs.shape
  rcases open_slice ht hy with ⟨h0, _⟩ | ⟨x, len, cap, m, n, D, Pl, hcs, _, hl, hm, hmm, hd, hi⟩
  · simp at h0; omega
  · simp at hcs
    obtain ⟨rfl, rfl, rfl⟩ := hcs
    subst hd
    have := bulk_len ((List.range l.length).map D)
    rw [List.length_map, List.length_range] at this
    simp only [Rows.uptoBulk]; omega
theorem bulk_two {α : Type} {E : El α} {S : BS} {t e u : TypeId} (ht : P.underlying t = some (.slice e)) (he : P.underlying e = some (.slice u)) (hC : P.cellsOf e = 1) (hE : (ESl E).Ok) {fuel : Nat} {v : Value} {y : DataW H × List MemPlace}
    (hy : DataW.trod enc P W 0 spare held fuel t [v] = some y) {l : List (List α)} (hs : Sl (ESl E) W S v l) : ∀ x ∈ l, x.length ≤ Rows.uptoBulk y.1 := by
  intro z hz
  obtain ⟨i, hi0, rfl⟩ := List.getElem_of_mem hz
  obtain ⟨A, c, rfl, _, _⟩ := hs.shape
  obtain ⟨b, off, c0, rfl, _, _, ⟨vz, rfl, hvz⟩, hcell⟩ := hs.at_ hE hi0
  rcases open_slice ht hy with ⟨h0, _⟩ | ⟨x, len, cap, m, n, D, Pl, hcs, _, hl, hm, hmm, hd, hi⟩
  · simp at h0
  · simp at hcs
    obtain ⟨rfl, rfl, rfl⟩ := hcs
    subst hd
    obtain ⟨cs', hc, ht'⟩ := hi i (by rw [hmm]; split <;> omega)
    rw [hC] at hc
    obtain ⟨_, hcl, hat⟩ := World.cells?_some hc
    have h1 := hcell 0 _ rfl
    have h2 := hat 0 (by omega)
    have e0 : cs' = [vz] := by
      match cs', hcl with
      | [q], _ =>
        have e1 : (⟨b, off, none⟩ : Addr).add (i * 1) = ⟨b, off + i, none⟩ := by rw [Nat.mul_one]; exact add_cell rfl
        have e2 : (⟨b, off + i, none⟩ : Addr).add 0 = ⟨b, off + i, none⟩ := by simp [Addr.add]
        rw [e1, e2] at h2
        simp only [show (ESl E).size = 1 from rfl, Nat.mul_one, Nat.add_zero] at h1
        rw [h1] at h2
        simp at h2
        rw [h2]
    subst e0
    have h3 := bulk_slice he ht' hvz
    have h4 : Rows.uptoBulk (D i) ≤ Rows.uptoBulkAll ((List.range l.length).map D) := bulk_part (List.mem_map.2 ⟨i, List.mem_range.2 hi0, rfl⟩)
    simp only [Rows.uptoBulk]
    exact Nat.le_trans h3 (by show Rows.uptoBulk (D i) ≤ _; omega)
end
end Go.Proofs.Ytpebphkceipfbaa
