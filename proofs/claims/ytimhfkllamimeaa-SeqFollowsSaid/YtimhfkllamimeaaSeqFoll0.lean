/- The law SeqFollows: its walk. -/
import Derived.Test.YtimhfkllamimeaaSeqC3
import Derived.Test.YtimhfkllamimeaaSeqCut
import Derived.Test.YtimhfkllamimeaaGrowTail
set_option linter.unusedSimpArgs false
set_option linter.unusedVariables false
namespace Go.Proofs.Ytimhfkllamimeaa
open Go.RowKit

/-- Where the element that stood at k stands; -1: nowhere. -/
def plL (c : UInt8) (i j k : Int) : Int := if (atL c i j k).2 then (atL c i j k).1 else -1
theorem pl_ok {n : Nat} {c : UInt8} {i j k : Int} (h : checkL n c i j = 0) (hk : 0 ≤ k ∧ k < n) :
    (∀ m : Int, 0 ≤ m → m < n + dlen c → ((if isNew c i m then (5 : Int) else 1000 + src c i j m) = 1000 + k ↔ m = plL c i j k)) ∧ plL c i j k < n + dlen c ∧ -1 ≤ plL c i j k ∧ ((atL c i j k).2 = true → 0 ≤ (atL c i j k).1) := by
  obtain ⟨k0, k1⟩ := hk
  rcases check_ok h with ⟨rfl, h1, h2⟩ | ⟨rfl, h1, h2⟩ | ⟨rfl, h1, h2⟩ | ⟨rfl, h1, h2, h3, h4⟩
  · clear h
    refine ⟨fun m hm1 hm2 => ?_, ?_, ?_, ?_⟩
    · simp [plL, atL, isNew, src, dlen, up, bl] at hm2 ⊢; omega
    · simp [plL, atL, isNew, src, dlen, up, bl]; omega
    · simp [plL, atL, isNew, src, dlen, up, bl]; try omega
    · simp [plL, atL, isNew, src, dlen, up, bl]; try omega
  · clear h
    by_cases e : i = k
    · subst e
      refine ⟨fun m hm1 hm2 => ?_, ?_, ?_, ?_⟩
      · simp [plL, atL, isNew, src, dlen, up, bl] at hm2 ⊢; omega
      · simp [plL, atL, isNew, src, dlen, up, bl]; omega
      · simp [plL, atL, isNew, src, dlen, up, bl]; try omega
      · simp [plL, atL, isNew, src, dlen, up, bl]; try omega
    · refine ⟨fun m hm1 hm2 => ?_, ?_, ?_, ?_⟩
      · simp [plL, atL, isNew, src, dlen, up, bl, e] at hm2 ⊢; omega
      · simp [plL, atL, isNew, src, dlen, up, bl, e]; omega
      · simp [plL, atL, isNew, src, dlen, up, bl, e]; try omega
      · simp [plL, atL, isNew, src, dlen, up, bl, e]; try omega
  · clear h
    by_cases e : i = k
    · subst e
      refine ⟨fun m hm1 hm2 => ?_, ?_, ?_, ?_⟩
      · simp [plL, atL, isNew, src, dlen, up, bl] at hm2 ⊢; omega
      · simp [plL, atL, isNew, src, dlen, up, bl]; omega
      · simp [plL, atL, isNew, src, dlen, up, bl]; try omega
      · simp [plL, atL, isNew, src, dlen, up, bl]; try omega
    · refine ⟨fun m hm1 hm2 => ?_, ?_, ?_, ?_⟩
      · simp [plL, atL, isNew, src, dlen, up, bl, e] at hm2 ⊢; omega
      · simp [plL, atL, isNew, src, dlen, up, bl, e]; omega
      · simp [plL, atL, isNew, src, dlen, up, bl, e]; try omega
      · simp [plL, atL, isNew, src, dlen, up, bl, e]; try omega
  · clear h
    by_cases e : i = k
    · subst e
      refine ⟨fun m hm1 hm2 => ?_, ?_, ?_, ?_⟩
      · simp [plL, atL, isNew, src, dlen, up, bl] at hm2 ⊢; omega
      · simp [plL, atL, isNew, src, dlen, up, bl]; omega
      · simp [plL, atL, isNew, src, dlen, up, bl]; try omega
      · simp [plL, atL, isNew, src, dlen, up, bl]; try omega
    · refine ⟨fun m hm1 hm2 => ?_, ?_, ?_, ?_⟩
      · simp [plL, atL, isNew, src, dlen, up, bl, e] at hm2 ⊢; omega
      · simp [plL, atL, isNew, src, dlen, up, bl, e]; omega
      · simp [plL, atL, isNew, src, dlen, up, bl, e]; try omega
      · simp [plL, atL, isNew, src, dlen, up, bl, e]; try omega
/-- What stands where behind a component. -/
theorem do_nums (n : Nat) (c : UInt8) (i j : Int) (vk : UInt8) (h : checkL n c i j = 0) : ∃ ys : List V, doL (numsL n) ⟨c, i, j, nV vk 5⟩ = some ys ∧ (ys.length : Int) = n + dlen c ∧
    ∀ m : Nat, m < ys.length → ∃ x, ys[m]? = some x ∧ x.n = if isNew c i m then (5 : Int) else 1000 + src c i j m := by
  have hlen := numsL_len n
  obtain ⟨ys, h1, h2, h3⟩ := do_F (numsL n) ⟨c, i, j, nV vk 5⟩ (by simp only [hlen]; exact h)
  simp only [hlen] at h3
  refine ⟨ys, h1, h3, fun m hm => ?_⟩
  have := h2 m
  simp only [doF] at this
  by_cases hn : isNew c i m
  · rw [if_pos hn] at this ⊢
    refine ⟨nV vk 5, by simpa [Fn] using this, rfl⟩
  · rw [if_neg hn] at this ⊢
    have hs : 0 ≤ src c i j m ∧ src c i j m < n := by
      rcases check_ok h with ⟨rfl, h1, h2⟩ | ⟨rfl, h1, h2⟩ | ⟨rfl, h1, h2⟩ | ⟨rfl, h1, h2, h4, h5⟩ <;> simp [src, dlen, isNew] at h3 hn ⊢ <;> omega
    obtain ⟨q, hq⟩ : ∃ q : Nat, src c i j m = q := ⟨(src c i j m).toNat, by omega⟩
    rw [hq] at this hs ⊢
    refine ⟨nV 2 (1000 + (q : Int)), ?_, rfl⟩
    have h9 : (numsL n)[q]? = some (nV 2 (1000 + (q : Int))) := by simp [numsL, show q < n from by omega]
    simpa [Fn, h9] using this
end Go.Proofs.Ytimhfkllamimeaa
