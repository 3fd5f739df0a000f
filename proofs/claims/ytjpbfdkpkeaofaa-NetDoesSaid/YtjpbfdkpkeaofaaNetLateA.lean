/- The law NetLate: what its walk leans on. -/
import Derived.Test.YtjpbfdkpkeaofaaNetTwice
import Derived.Test.YtjpbfdkpkeaofaaNetOpenX
import Derived.Test.YtjpbfdkpkeaofaaNetKnown
import Derived.Test.YtjpbfdkpkeaofaaNetCutC
import Derived.Test.YtjpbfdkpkeaofaaNetAll
import Derived.Test.YtjpbfdkpkeaofaaLawAid0
set_option linter.unusedSimpArgs false
set_option linter.unusedVariables false
namespace Go.Proofs.Ytjpbfdkpkeaofaa
open Go.RowKit
set_option linter.unusedVariables false

def opsWeight (l : List LOp) : Nat := (l.map fun o => o.b.length + 1).sum
theorem opsWeight_snoc (l : List LOp) (o : LOp) : opsWeight (l ++ [o]) = opsWeight l + (o.b.length + 1) := by simp [opsWeight]
theorem opsWeight_le {R : Nat} : ∀ (l : List LOp), (∀ o ∈ l, o.b.length ≤ R) → opsWeight l ≤ l.length * (R + 1)
  | [], _ => by simp [opsWeight]
  | o :: l, h => by
    have h1 := opsWeight_le l fun x hx => h x (List.mem_cons_of_mem _ hx)
    have h2 := h o List.mem_cons_self
    simp only [opsWeight, List.map_cons, List.sum_cons, List.length_cons] at *
    rw [Nat.add_mul]; omega
theorem opsWeight_mem : ∀ (l : List LOp) (o : LOp), o ∈ l → o.b.length < opsWeight l
  | x :: l, o, h => by
    simp only [opsWeight, List.map_cons, List.sum_cons]
    rcases List.mem_cons.1 h with rfl | h
    · omega
    · have := opsWeight_mem l o h; simp only [opsWeight] at this; omega

def NotHeavy (l : List LOp) : Prop := l.length ≤ 100 ∧ ∀ o ∈ l, o.b.length ≤ 4000
set_option maxHeartbeats 800000 in
theorem heavy_small (w : World) (S : BS) (v : Value) (l : List LOp) (h : Sl EOp w S v l) (hR : ∀ o ∈ l, o.b.length ≤ reachBytes) :
    Calls Try.prog 6 #[v] w fun e w' => (e = .returned (.bool true) ∨ (e = .returned (.bool false) ∧ NotHeavy l)) ∧ w = w' := by
  by_cases h100 : l.length ≤ 100
  case neg => exact (heavy_ok w S v l h).mono fun e w' ⟨h1, h2⟩ => ⟨.inl (h1.resolve_right fun h => h100 h.2), h2⟩
  obtain ⟨A, c, rfl, hlc, hcm⟩ := h.shape
  unfold maxLen at hcm
  have HA := hid h
  have HR := hid hR
  have h100i : (l.length : Int) ≤ 100 := by omega
  generalize hn : l.length = n at *
  have HN := hid hn
  clear h hn hR
  go_enter Try.func6, Try.ntmps6
  go_wp2
  go_loop [3, 4] (fun x i => ∃ (j : Nat), j ≤ n ∧ i = .int .i64 j ∧ x = .int .i64 (opsWeight (l.take j) : Nat)) (fun _ i => n - (intOf i).toNat)
  case atStart => exact ⟨0, by omega, rfl, rfl⟩
  case round =>
    obtain ⟨j, hj, rfl, rfl⟩ := hrel
    by_cases hlt : j < n
    · have hjm : j < l.length := by rw [HN.out]; exact hlt
      have hw := opsWeight_le (R := reachBytes) (l.take j) fun o ho => HR.out o (List.mem_of_mem_take ho)
      have hm1 := HR.out l[j] (List.getElem_mem _)
      have hts := take_succ_get l j hjm
      obtain ⟨b1, o1, c1, rfl, _, _, hr1, hc1⟩ := HA.out.at_ EOp.ok hjm
      generalize hm : l[j]'hjm = m at *
      obtain ⟨bv1, rfl, hv1⟩ := hr1
      have e3 := hc1 3 _ rfl
      have hz3 : EOp.size = 5 := rfl
      simp only [hz3] at e3
      obtain ⟨A1, d1, rfl, _⟩ := hv1.shape
      have HS := hid (show opsWeight (l.take (j + 1)) = opsWeight (l.take j) + (m.b.length + 1) from by rw [hts, opsWeight_snoc])
      have hwl : opsWeight (l.take j) ≤ 100 * 140737488351233 := by
        have : (l.take j).length ≤ 100 := by simp; omega
        have := Nat.mul_le_mul_right (reachBytes + 1) this
        exact Nat.le_trans hw this
      have hml : m.b.length ≤ 140737488351232 := hm1
      generalize opsWeight (l.take j) = s at *
      clear hz3 hc1 hm hv1 hts hw hm1
      go_wp2
      go_round
      case rel => exact ⟨j + 1, by omega, by go_num, by rw [HS.out]; go_num⟩
      case measure => simp [intOf]; omega
    · obtain rfl : j = n := by omega
      have hall : l.take j = l := List.take_of_length_le (by rw [HN.out]; exact Nat.le_refl _)
      rw [hall]
      have hmem := hid (opsWeight_mem l)
      generalize opsWeight l = s at *
      by_cases hs : (4000 : Int) < s
      · go_wp2
        go_ret
        exact ⟨.inl rfl, rfl⟩
      · have hs' : (s : Int) ≤ 4000 := by omega
        have hng : ¬ (100 : Int) < j := by omega
        go_wp2
        go_ret
        exact ⟨.inr ⟨rfl, by rw [HN.out]; omega, fun o ho => by have := hmem.out o ho; omega⟩, rfl⟩
end Go.Proofs.Ytjpbfdkpkeaofaa
