/- Components one behind the other: 'append([]Comp{y}, Turn(x, y, left)...)'. -/
import Derived.Test.YtimhfkllamimeaaSeqR
import Derived.Test.YtimhfkllamimeaaLawAid0
import Derived.Test.YtimhfkllamimeaaGrowTail
set_option linter.unusedSimpArgs false
set_option linter.unusedVariables false
namespace Go.Proofs.Ytimhfkllamimeaa
open Go.RowKit

theorem ty_cmp : TyInfo Try.prog 30 TCOMP 12 168 := by
  obtain ⟨i, h1, h2, h3, h4⟩ := info_parts (show (Try.prog.info? TCOMP).map (fun i => (i.zero, i.size, i.bytes)) = some (some (.agg (cmCells 0 0 0 0 0).toArray), 12, 168) from by kernel_rfl)
  exact ⟨Try.underlying30, i, _, h1, h2, h3, h4, rfl⟩
theorem own_one_cm {w : World} {base g : Nat} {k : UInt8} {i j : Int} {vk : UInt8} {vn : Int} (hg : base ≤ g) (hb : Blk w g TCOMP (cmCells k i j vk vn).toArray) :
    Own ECm w base TCOMP (fun _ => False) (.slice (some ⟨g, 0, none⟩) 1 1) [⟨k, i, j, nV vk vn⟩] :=
  .inr ⟨g, 1, _, rfl, hg, hb, by simp, by simp [maxLen], rfl, cmCells k i j vk vn, _, rfl, ⟨_, _, rfl, rfl⟩, rfl⟩
theorem sl_one_cm {w : World} {g : Nat} {S : BS} {k : UInt8} {i j : Int} {vk : UInt8} {vn : Int} (hg : S g) (hb : Blk w g TCOMP (cmCells k i j vk vn).toArray) :
    Sl ECm w S (.slice (some ⟨g, 0, none⟩) 1 1) [⟨k, i, j, nV vk vn⟩] := by
  refine ((own_one_cm (base := g) (Nat.le_refl _) hb).sl ECm.ok).more ECm.ok fun q _ h => ?_
  rcases h with h | h
  · cases h
  · have : g = q := by simpa [Value.ownBlock] using h
    exact this ▸ hg
theorem comp_sl {w w0 w' : World} {k : UInt8} {vk : UInt8} {vn : Int} {r : Option (Int × Int)} {e : Ending} (h0 : w0.heap.size ≤ w.heap.size) (h : CompIs (U8 k) (.slice none 0 0) (.string ⟨#[]⟩) (.int .i64 0) (U8 vk) (.int .i64 vn) (.string ⟨#[]⟩) (.slice none 0 0) (.slice none 0 0) (.string ⟨#[]⟩) w r e w') :
    ∃ v, e = .returned v ∧ Ext w w' ∧ SlShape ECm w' (fun q => w0.heap.size ≤ q) v (r.map fun p => (⟨k, p.1, p.2, nV vk vn⟩ : Cm V)).toList.length (r.map fun p => (⟨k, p.1, p.2, nV vk vn⟩ : Cm V)).toList := by
  obtain ⟨v, rfl, h1, h2⟩ := h
  cases r with
  | none => obtain rfl := h2; exact ⟨_, rfl, h1, none, 0, rfl, Sl.nil _ _⟩
  | some p =>
    obtain ⟨g, rfl, h3, h4⟩ := h2
    exact ⟨_, rfl, h1, some ⟨g, 0, none⟩, 1, rfl, sl_one_cm (by omega) h4⟩
theorem cm_flat {w w' : World} {S S' : BS} : ∀ {ds : List Value} {cs : List (Cm V)}, Cells ECm w S ds cs → Cells ECm w' S' ds cs
  | _, [], h => h
  | _, _ :: _, ⟨c0, c1, e, h0, h1⟩ => ⟨c0, c1, e, h0, cm_flat h1⟩
/-- What stands where two were put in at one place. -/
theorem ties_nums (n p : Nat) (left : Bool) (hp : p < n + 1) : ∃ ys : List V, doneL (numsL n) (⟨4, p, 0, nV 2 2⟩ :: turnC ⟨4, p, 0, nV 2 1⟩ ⟨4, p, 0, nV 2 2⟩ left) = some ys ∧ ys.length = n + 2 ∧
    ys[p]? = some (nV 2 (if left then 1 else 2)) ∧ ys[p + 1]? = some (nV 2 (if left then 2 else 1)) := by
  have hlen := numsL_len n
  have hc : checkL (numsL n).length 4 (p : Int) 0 = 0 := check_of (.inl ⟨rfl, by omega, by rw [hlen]; omega⟩)
  have ht : turnL 4 p 0 4 p 0 left = some (if left then (p : Int) else p + 1, 0) := by cases left <;> simp [turnL, knownL, gapL, up, bl]
  obtain ⟨l1, h1, f1, n1⟩ := do_F (numsL n) ⟨4, p, 0, nV 2 2⟩ hc
  have hn1 : l1.length = n + 1 := by simp [dlen, hlen] at n1; omega
  obtain ⟨l2, h2, f2, n2⟩ := do_F l1 ⟨4, if left then (p : Int) else p + 1, 0, nV 2 1⟩ (check_of (.inl ⟨rfl, by simp only; split <;> omega, by simp only [hn1]; split <;> omega⟩))
  have hn2 : l2.length = n + 2 := by simp [dlen, hn1] at n2; omega
  refine ⟨l2, by simp [doneL, turnC, h1, ht, h2], hn2, ?_, ?_⟩
  · have : Fn l2 p = some (nV 2 (if left then 1 else 2)) := by
      rw [f2]
      cases left <;> simp [doF, f1, new4, src, show ¬ (p : Int) = p + 1 from by omega, show (p : Int) < p + 1 from by omega]
    simpa [Fn] using this
  · have : Fn l2 ((p + 1 : Nat) : Int) = some (nV 2 (if left then 2 else 1)) := by
      rw [f2]
      cases left <;> simp [doF, f1, new4, src, show ¬ (p : Int) + 1 = p from by omega, show ¬ (p : Int) + 1 < p from by omega, show (p : Int) + 1 - 1 = p from by omega]
    rw [Fn, if_pos (by omega)] at this
    simpa using this
end Go.Proofs.Ytimhfkllamimeaa
