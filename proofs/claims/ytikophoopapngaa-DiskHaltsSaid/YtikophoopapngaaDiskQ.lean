/- Package disk: Names by contract. -/
import Derived.Test.YtikophoopapngaaDiskP
import Derived.Test.YtikophoopapngaaLayK2
set_option linter.unusedSimpArgs false
set_option linter.unusedVariables false
namespace Go.Proofs.Ytikophoopapngaa
open Go.RowKit Go.Maps Go.Sort
set_option linter.unusedVariables false

theorem names_keys (fs : List DF) : strKeys (.map (fs.map ent)) = fs.map fun f => f.c.name := by
  show (fs.map ent).map (fun p => strOf p.1) = _
  rw [List.map_map]
  rfl
theorem cells_str (w : World) (S : BS) : ∀ ss : List (List UInt8), Cells EStr w S (ss.map Go.Proofs.encStr) (ss.map textOf)
  | [] => rfl
  | x :: r => ⟨[.string (textOf x)], r.map Go.Proofs.encStr, rfl, rfl, cells_str w S r⟩
set_option maxHeartbeats 1600000 in
theorem names_ok : NamesAll := by
  intro w B d cs s h
  obtain ⟨h0, m, fs, hd, rfl⟩ := h
  obtain ⟨c0, _, _, _⟩ := hd.cells
  have hl : fs.length ≤ 64 := by have := h0.many; rwa [List.length_map] at this
  have e0 : Maps.size (DataW.map (fs.map ent)) = fs.length := by simp [Maps.size]
  have hown := hd.map
  unfold MapIs at hown
  have hmax : Maps.size (DataW.map (fs.map ent)) ≤ maxLen := by rw [e0]; unfold maxLen; omega
  have hbytes : Maps.size (DataW.map (fs.map ent)) * 16 ≤ 140737488355328 := by rw [e0]; omega
  have HK := hid (Try.maps_Keys_35 (some m) w)
  have HS := hid (Try.slices_Sorted_keys_34_35 m fs.length _ fileElem w hown hmax hbytes)
  clear h0 hd hl e0 hown hmax hbytes
  refine (callsIn_wide (n := 6)).1 ?_
  have hfK : Fence.wide.fn 35 := trivial
  have hfS : Fence.wide.fn 34 := trivial
  refine callsIn_of_wp Try.func18 rfl trivial ?_ rfl
  simp only [Try.ntmps18, List.size_toArray, List.length_cons, List.length_nil, Nat.reduceAdd, Nat.reduceSub, Array.replicate_succ, Array.replicate_zero, List.push_toArray, List.append_toArray, List.nil_append, List.cons_append]
  gi_wp2_with (first
    | (gi_at_call 35; refine HK.out.mono ?_; rintro e w' ⟨rfl, rfl⟩)
    | (gi_at_call 34; refine HS.out.mono ?_; rintro e w' ⟨v, ss, rfl, hS, hrow, hnil, hb⟩))
  go_ret
  rw [names_keys] at hS
  have hE : Ext w w' := (((Keep.refl (fun _ => False) w).alloc _)).trans (Keep.of_below (F := fun _ => False) hb fun k h1 h2 => by omega) fun _ _ h => h
  have hms : (ss.mergeSort fun x y => decide (x ≤ y)) = ((fs.map DF.c).map DC.name).mergeSort fun x y => decide (x ≤ y) := by
    rw [List.map_map]
    exact mergeSort_of_perm hS
  refine ⟨v, rfl, ?_, hE⟩
  have hlen : ss.length = ((ss.mergeSort fun x y => decide (x ≤ y)).map textOf).length := by simp
  have hown : Own EStr w' (w.heap.size + 1) 9 (fun _ => False) v ((ss.mergeSort fun x y => decide (x ≤ y)).map textOf) := by
    refine Own.ofRow (cs := (ss.mergeSort fun x y => decide (x ≤ y)).map Go.Proofs.encStr) ?_ (cells_str _ _ _)
    rw [← hlen]
    show w'.ownsRow (w.heap.size + 1) 9 1 v ss.length _
    simpa using hrow
  have hsl := (hown.sl EStr.ok).more (S' := fun q => w.heap.size ≤ q) EStr.ok fun k _ h => by
    rcases h with h | h
    · exact h.elim
    · have := (hown.lt h).1; omega
  unfold namesC
  rw [← hms]
  exact hsl
end Go.Proofs.Ytikophoopapngaa
