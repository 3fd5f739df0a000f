/- SoundL: laid together. -/
import Derived.Test.YtioplgfopillnaaApB10
import Derived.Test.YtioplgfopillnaaApB8
import Derived.Laws.Strings
/- Objects with one field more are sound; places of keys. -/
set_option linter.unusedSimpArgs false
set_option linter.unusedVariables false
namespace Go.Proofs.Ytioplgfopillnaa
open Go.RowKit

theorem rise_iff : ∀ (o : List F), Rise o ↔ o.Pairwise fun f g => keyLt f.key g.key = true
  | [] => by simp [Rise]
  | f :: fs => by rw [Rise, List.pairwise_cons, rise_iff fs]
theorem take_fieldL (o : List F) (key : ByteArray) : o.take (fieldL o key) = o.takeWhile fun f => keyLt f.key key := by
  unfold fieldL
  exact (List.prefix_iff_eq_take.1 (List.takeWhile_prefix _)).symm
theorem take_fieldL_lt {o : List F} {key : ByteArray} {f : F} (h : f ∈ o.take (fieldL o key)) : keyLt f.key key = true := by
  rw [take_fieldL] at h
  have := List.all_takeWhile (l := o) (p := fun f => keyLt f.key key)
  rw [List.all_eq_true] at this
  exact this f h
theorem fieldL_head : ∀ {o : List F} {key : ByteArray} (h : fieldL o key < o.length), keyLt (o[fieldL o key]).key key = false
  | [], key, h => by simp at h
  | f :: fs, key, h => by
    by_cases hf : keyLt f.key key = true
    · have e : fieldL (f :: fs) key = fieldL fs key + 1 := by unfold fieldL; rw [List.takeWhile_cons, hf]; rfl
      have h2 : fieldL fs key < fs.length := by rw [e] at h; simpa using h
      have := fieldL_head h2
      simp only [e, List.getElem_cons_succ]
      exact this
    · have e : fieldL (f :: fs) key = 0 := by unfold fieldL; rw [List.takeWhile_cons, if_neg hf]; rfl
      simp only [e, List.getElem_cons_zero]
      simpa using hf
theorem key_eq {a b : ByteArray} (h : a.toList = b.toList) : a = b := by
  have h1 : a.data.toList = b.data.toList := by rw [← ByteArray.toList_eq, ← ByteArray.toList_eq]; exact h
  cases a; cases b
  simp only at h1
  rw [Array.toList_inj.1 h1]
theorem drop_lt {o : List F} {key : ByteArray} (hr : Rise o) {g : F} (h : g ∈ o.drop (if fieldIs o key = true then fieldL o key + 1 else fieldL o key)) : keyLt key g.key = true := by
  rw [rise_iff] at hr
  by_cases hk : fieldL o key < o.length
  · have h0 := fieldL_head hk
    have hd := List.drop_eq_getElem_cons hk
    have hr2 : (o.drop (fieldL o key)).Pairwise fun f g => keyLt f.key g.key = true := hr.sublist (List.drop_sublist _ _)
    rw [hd, List.pairwise_cons] at hr2
    have hi := fieldIs_some hk rfl
    by_cases hc : fieldIs o key = true
    · rw [if_pos hc] at h
      rw [hi] at hc
      have he := key_eq (by simpa using hc)
      have := hr2.1 g h
      rwa [he] at this
    · rw [if_neg hc, hd] at h
      rw [hi] at hc
      have hne : (o[fieldL o key]).key.toList ≠ key.toList := by simpa using hc
      have hlt := less_total h0 hne
      rcases List.mem_cons.1 h with rfl | h
      · exact hlt
      · exact less_trans hlt (hr2.1 g h)
  · have hc : fieldIs o key = false := fieldIs_none (by have := fieldL_le o key; omega)
    rw [if_neg (by simp [hc])] at h
    rw [List.drop_eq_nil_of_le (by omega)] at h
    cases h
theorem withL_rise {o : List F} {key : ByteArray} {x : V} (hr : Rise o) : Rise (withL o key x) := by
  have hr' := (rise_iff o).1 hr
  rw [rise_iff]
  unfold withL
  rw [List.pairwise_append, List.pairwise_cons]
  refine ⟨hr'.sublist (List.take_sublist _ _), ⟨fun g hg => drop_lt hr hg, hr'.sublist (List.drop_sublist _ _)⟩, fun a ha b hb => ?_⟩
  have h1 := take_fieldL_lt ha
  rcases List.mem_cons.1 hb with rfl | hb
  · exact h1
  · exact less_trans h1 (drop_lt hr hb)
theorem withL_sfs {o : List F} {key : ByteArray} {x : V} (h : SFs o) (hk : Asc key) (hx : SV x) : SFs (withL o key x) := by
  rw [SFs_iff] at h ⊢
  intro f hf
  unfold withL at hf
  rcases List.mem_append.1 hf with hf | hf
  · exact h f (List.mem_of_mem_take hf)
  · rcases List.mem_cons.1 hf with rfl | hf
    · rw [SF_iff]; exact ⟨hk, hx⟩
    · exact h f (List.mem_of_mem_drop hf)
theorem F.sizes_take (o : List F) (k k' : Nat) (h : k ≤ k') : F.sizes (o.take k) + F.sizes (o.drop k') ≤ F.sizes o := by
  have h1 : F.sizes (o.take k) + F.sizes (o.drop k) = F.sizes o := by rw [← F.sizes_append, List.take_append_drop]
  have h2 : F.sizes ((o.drop k).take (k' - k)) + F.sizes ((o.drop k).drop (k' - k)) = F.sizes (o.drop k) := by rw [← F.sizes_append, List.take_append_drop]
  rw [List.drop_drop, show k + (k' - k) = k' from by omega] at h2
  omega
theorem withL_sizes (o : List F) (key : ByteArray) (x : V) : F.sizes (withL o key x) ≤ F.sizes o + x.size := by
  unfold withL
  rw [F.sizes_append, F.sizes, F.size_eq]
  have := F.sizes_take o (fieldL o key) (if fieldIs o key = true then fieldL o key + 1 else fieldL o key) (by split <;> omega)
  show F.sizes _ + (x.size + F.sizes _) ≤ _
  omega
/-- The place of a key that stands there. -/
theorem fieldL_of {o : List F} (hr : Rise o) {j : Nat} (hj : j < o.length) : fieldL o o[j].key = j ∧ fieldIs o o[j].key = true := by
  have hr' := (rise_iff o).1 hr
  have h : fieldL o o[j].key = j := fieldL_at (by omega) (fun i hi hij => List.pairwise_iff_getElem.1 hr' i j hi hj hij) (fun _ => less_irrefl _)
  exact ⟨h, by rw [fieldIs_some hj h]; simp⟩
end Go.Proofs.Ytioplgfopillnaa
