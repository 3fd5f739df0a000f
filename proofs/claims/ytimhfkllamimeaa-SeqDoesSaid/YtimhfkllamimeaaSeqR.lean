/- Plain laws of one list: moved and back, put in and taken out; two components in new memory. -/
import Derived.Test.YtimhfkllamimeaaSeqT
import Derived.Test.YtimhfkllamimeaaSeqGone
set_option linter.unusedSimpArgs false
set_option linter.unusedVariables false
namespace Go.Proofs.Ytimhfkllamimeaa
open Go.RowKit

section
variable {α : Type}
theorem done_pair {l : List α} {c d : Cm α} (hc : checkL l.length c.k c.i c.j = 0) (hd : ∀ m : Nat, (m : Int) = l.length + dlen c.k → checkL m d.k d.i d.j = 0) :
    ∃ p, doneL l [c, d] = some p ∧ (∀ k, Fn p k = doF (doF (Fn l) c) d k) ∧ (p.length : Int) = l.length + dlen c.k + dlen d.k := by
  obtain ⟨l1, h1, f1, n1⟩ := do_F l c hc
  obtain ⟨l2, h2, f2, n2⟩ := do_F l1 d (hd _ n1)
  exact ⟨l2, by simp [doneL, h1, h2], fun k => by rw [f2]; congr 1; funext k; exact f1 k, by omega⟩
theorem back_mv (l : List α) (i j : Nat) (x y : α) (hi : i < l.length) (hj : j < l.length) : doneL l [⟨7, i, j, x⟩, ⟨7, j, i, y⟩] = some l := by
  obtain ⟨p, h1, h2, _⟩ := done_pair (l := l) (c := ⟨7, i, j, x⟩) (d := ⟨7, j, i, y⟩) (check_of (by refine .inr (.inr (.inr ⟨rfl, ?_⟩)); simp only; omega)) (fun m hm => check_of (by refine .inr (.inr (.inr ⟨rfl, ?_⟩)); simp [dlen] at hm; simp only; omega))
  rw [h1]
  congr 1
  refine F_inj fun k => ?_
  rw [h2]
  have h7 : ∀ a b, ¬ isNew 7 a b := fun a b h => by have := h.1; revert this; decide
  simp only [doF, h7, if_false]
  congr 1
  simp only [src, show (7 : UInt8) ≠ 4 from by decide, show (7 : UInt8) ≠ 5 from by decide, show (7 : UInt8) ≠ 6 from by decide, if_false]
  omega
theorem back_ins (l : List α) (i : Nat) (j j' : Int) (x y : α) (hi : i ≤ l.length) : doneL l [⟨4, i, j, x⟩, ⟨5, i, j', y⟩] = some l := by
  obtain ⟨p, h1, h2, _⟩ := done_pair (l := l) (c := ⟨4, i, j, x⟩) (d := ⟨5, i, j', y⟩) (check_of (by refine .inl ⟨rfl, ?_⟩; simp only; omega)) (fun m hm => check_of (by refine .inr (.inl ⟨rfl, ?_⟩); simp [dlen] at hm; simp only; omega))
  rw [h1]
  congr 1
  refine F_inj fun k => ?_
  rw [h2]
  have h5 : ∀ a b, ¬ isNew 5 a b := fun a b h => by have := h.1; revert this; decide
  simp only [doF, h5, if_false]
  rw [if_neg (fun h => by have := new4.1 h; simp [src] at this; omega)]
  congr 1
  simp only [src, show (5 : UInt8) ≠ 4 from by decide, if_true, if_false]
  omega
end

/-- Two components in new memory. -/
theorem sl_two_cm (w : World) (k1 k2 : UInt8) (i1 j1 i2 j2 : Int) (vk1 vk2 : UInt8) (vn1 vn2 : Int) : Sl ECm (w.alloc (.cells (cmCells k1 i1 j1 vk1 vn1 ++ cmCells k2 i2 j2 vk2 vn2).toArray TCOMP)) (fun _ => True) (.slice (some ⟨w.heap.size, 0, none⟩) 2 2) [⟨k1, i1, j1, nV vk1 vn1⟩, ⟨k2, i2, j2, nV vk2 vn2⟩] :=
  ⟨cmCells k1 i1 j1 vk1 vn1 ++ cmCells k2 i2 j2 vk2 vn2, (RowS.new (w := w) (sz := 12) (n := 2) rfl (by simp [maxLen]) _).more fun _ _ _ => trivial,
    cmCells k1 i1 j1 vk1 vn1, _, rfl, ⟨_, _, rfl, rfl⟩, cmCells k2 i2 j2 vk2 vn2, _, by simp, ⟨_, _, rfl, rfl⟩, rfl⟩
theorem flat_leaf {l : List V} (h : Flat l) : ∀ x ∈ l, ∃ k n, x = V.mk k n ⟨#[]⟩ [] [] := h
theorem rem40 {a : Int} (h : (Lit.int .u8 a).wf = true) : ∃ m : Nat, m < 40 ∧ a.tmod 40 = m := by
  have h0 : IntKind.u8.min = 0 := by decide
  have h1 : IntKind.u8.max = 255 := by decide
  simp [Lit.wf, h0, h1] at h
  exact ⟨(a.tmod 40).toNat, by have := Int.tmod_lt_of_pos a (show (0 : Int) < 40 from by omega); have := Int.tmod_nonneg 40 h.1; omega, by have := Int.tmod_nonneg 40 h.1; omega⟩
theorem tmod_nat (a n : Nat) (h : 0 < n) : ∃ m : Nat, m < n ∧ (a : Int).tmod (n : Int) = m := ⟨a % n, Nat.mod_lt _ h, by rw [Int.ofNat_tmod]⟩
end Go.Proofs.Ytimhfkllamimeaa
