/- From the readings of arguments to the words of the walks. -/
import Derived.Test.YtjpbfdkpkeaofaaBase
import Derived.OpenShut
import Derived.ProofKit
import Derived.ChangeOld
set_option linter.unusedSimpArgs false
set_option linter.unusedVariables false
namespace Go.Proofs.Ytjpbfdkpkeaofaa
open Go.ChangeShapes Go.WideShapes Go.ChangeAt Go.RowKit

section
variable {H : Type} {enc : TypeId × Value → H} {P : Program} {W : World}

theorem add_cell {x : Addr} {i : Nat} (hx : x.spot = none) : x.add i = ⟨x.block, x.off + i, none⟩ := by
  cases x; simp at hx; subst hx
  unfold Addr.add
  split <;> simp_all

theorem spot_of_cell {x : Addr} {v : Value} (h : W.cell? x = some v) : x.spot = none := by
  unfold World.cell? at h
  split at h
  · split at h
    · cases h
    · rename_i hs; simpa using hs
  · cases h

theorem u8_of_wf {n : Int} (h : (Lit.int .u8 n).wf = true) : ∃ c : UInt8, n = (c.toNat : Int) := by
  have h1 : 0 ≤ n ∧ n ≤ 255 := by
    simp [Lit.wf, IntKind.has, IntKind.min, IntKind.max, IntKind.signed, IntKind.bits] at h
    omega
  refine ⟨UInt8.ofNat n.toNat, ?_⟩
  rw [UInt8.toNat_ofNat_of_lt' (by simp [UInt8.size]; omega)]
  omega

theorem u8s_of_wf : ∀ (zs : List Int), (∀ n ∈ zs, (Lit.int .u8 n).wf = true) → ∃ l : List UInt8, zs = l.map fun c => (c.toNat : Int)
  | [], _ => ⟨[], rfl⟩
  | z :: zs, h => by
    obtain ⟨c, hc⟩ := u8_of_wf (h z (by simp))
    obtain ⟨l, hl⟩ := u8s_of_wf zs fun n hn => h n (by simp [hn])
    exact ⟨c :: l, by simp [hc, hl]⟩

theorem bytes_of_trod {t e : TypeId} {spare : Nat → Bool} {held : Bool} {v : Value} {d : DataW H} {p : List MemPlace} (ht : P.underlying t = some (.slice e)) (he : P.underlying e = some (.int .u8)) (hc : P.cellsOf e = 1)
    (hv : ∃ a len cap, v = .slice a len cap) (h : DataW.Trod enc P W 0 spare held t v d p) : ∃ l : List UInt8, Bytes W W.heap.size v l := by
  obtain ⟨a, len, cap, rfl⟩ := hv
  obtain ⟨fuel, hf⟩ := h
  rcases open_ints ht he hc hf with ⟨hcs, _⟩ | ⟨x, len', cap', zs, hcs, _, hl, hm, hz, _, hcell, hwz⟩
  · simp [Value.cells] at hcs
    obtain ⟨rfl, rfl, rfl⟩ := hcs
    exact ⟨[], Row.nil _ _⟩
  · simp [Value.cells] at hcs
    obtain ⟨rfl, rfl, rfl⟩ := hcs
    obtain ⟨l, rfl⟩ := u8s_of_wf zs hwz
    have hlen : len ≤ l.length := by
      simp at hz
      split at hz <;> omega
    refine ⟨l.take len, some x, cap, by simp [hlen], by simp; omega, hm, fun hn => ?_⟩
    have h0 : 0 < l.length := by simp at hn; omega
    have hs := spot_of_cell (by simpa [Addr.add] using hcell 0 (by simpa using h0))
    refine ⟨x.block, x.off, by cases x; simp at hs; subst hs; rfl, ?_, fun i u hu => ?_⟩
    · have := lt_of_cell (hcell 0 (by simpa using h0))
      simpa [Addr.add] using this
    · obtain ⟨hi, rfl⟩ := List.getElem?_eq_some_iff.1 hu
      have hlt : i < l.length := by simp at hi; omega
      have := hcell i (by simpa using hlt)
      rw [add_cell hs] at this
      rw [this]
      simp [List.getD, hlt]
end
end Go.Proofs.Ytjpbfdkpkeaofaa
