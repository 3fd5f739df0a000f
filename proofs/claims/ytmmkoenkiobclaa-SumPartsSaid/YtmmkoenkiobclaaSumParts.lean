/- Bytes are summed alike, however they are cut: the walk. -/
import Derived.Test.YtmmkoenkiobclaaKnown
import Derived.Test.YtmmkoenkiobclaaGrow
import Derived.Test.YtmmkoenkiobclaaLawAid
namespace Go.Proofs.Ytmmkoenkiobclaa
open Go.RowKit
set_option linter.unusedVariables false

set_option maxHeartbeats 800000 in
theorem parts_walk (va : Value) (l : List UInt8) (i j : Int) (w : World) (ha : Bytes w w.heap.size va l) (hi : (Lit.int .i64 i).wf = true) (hj : (Lit.int .i64 j).wf = true) :
    Calls Try.prog 5 #[va, .int .i64 i, .int .i64 j] w fun e w' => e = .returned (.bool true) ∧ Below w.heap.size w w' := by
  obtain ⟨A, c, rfl, hlc, hcm, _⟩ := ha.open_
  unfold maxLen at hcm
  by_cases h1 : l.length ≤ 1500
  · go_enter Try.func5, Try.ntmps5
    go_wp2_with fail
    refine (known_any w).mono ?_
    rintro e w1 ⟨rfl, hE1⟩
    have h0 : (0 : Int) ≤ (l.length : Int) := by omega
    obtain ⟨i0, hmi⟩ := run_max0 i
    obtain ⟨j0, hmj⟩ := run_max0 j
    obtain ⟨n, hn, hn'⟩ : ∃ n : Nat, (i0 : Int) % ((l.length : Int) + 1) = n ∧ n ≤ l.length := ⟨i0 % (l.length + 1), by rw [show ((l.length : Int) + 1) = ((l.length + 1 : Nat) : Int) from by omega]; omega, by have := Nat.mod_lt i0 (show 0 < l.length + 1 by omega); omega⟩
    obtain ⟨k, hk, hk'⟩ : ∃ k : Nat, (j0 : Int) % ((l.length : Int) - n + 1) = k ∧ k ≤ l.length - n := ⟨j0 % (l.length - n + 1), by
      rw [show ((l.length : Int) - n + 1) = ((l.length - n + 1 : Nat) : Int) from by omega]; omega, by have := Nat.mod_lt j0 (show 0 < l.length - n + 1 by omega); omega⟩
    go_wp2_with fail
    obtain ⟨m, hm⟩ : ∃ m : Nat, (n : Int) + (k : Int) = m := ⟨n + k, by omega⟩
    simp only [hn, hk, hm]
    have hnm : n ≤ m := by omega
    have hml : m ≤ l.length := by omega
    have hnc : n ≤ c := by omega
    have hmc : m ≤ c := by omega
    clear hmi hmj hn hk hm hk' hn'
    refine wp_region_grow (specOf [(1, fun v w' => ∃ B, Bytess w' B v [l]), (2, fun v _ => v = U32 (sumOf l)), (13, fun v w' => ∃ B, Bytess w' B v [l.take n, (l.take m).drop n, [], l.drop m]), (14, fun v _ => v = U32 (sumOf l))])
      (fun w' => Ext w1 w') ?_ (stableC_ext _) (by kernel_rfl) (by kernel_rfl) (Keep.drew (Keep.refl _ _)) ?_
    · exact stable_cons (fun v w w' ⟨B, h⟩ he => ⟨B, h.ext he⟩) (stable_cons (fun _ _ _ h _ => h) (stable_cons (fun v w w' ⟨B, h⟩ he => ⟨B, h.ext he⟩) (stable_cons (fun _ _ _ h _ => h) stable_nil)))
    iterate 1
      refine grow_run rfl rfl rfl ?_
      apply Exists.intro
      refine ⟨fun w' hC hK => ?_, ?_⟩
      · go_simp
        rfl
      simp only [Act.put, List.setIfInBounds_toArray, List.set_cons_zero, List.set_cons_succ]
    refine grow_eff rfl rfl rfl (fun w' hC hK => ?_) (fun v hv => ?_)
    · unfold growAt
      go_simp
      exact ⟨(Keep.refl _ _).alloc _, w'.heap.size + 1, Bytess.one (Row.new (l := [_]) (by omega) (by simp [maxLen])) (((ha.ext hE1).ext (hC.alloc _)).more (by have := hE1.size; have := hC.size; omega))⟩
    simp only [Act.put, List.setIfInBounds_toArray, List.set_cons_zero, List.set_cons_succ]
    refine grow_eff rfl rfl rfl (fun w' hC hK => ?_) (fun v2 hv2 => ?_)
    · unfold growAt
      go_simp
      obtain ⟨B, hb⟩ := hK.get (i := 1) List.mem_cons_self (by kernel_rfl)
      exact grow_call ((sum_any _ _ _ _ hb).mono fun e w'' ⟨h1, h2⟩ => ⟨_, h1, h2, by simp⟩)
    obtain ⟨_, _, rfl⟩ := hv2.head
    iterate 10
      simp only [Act.put, List.setIfInBounds_toArray, List.set_cons_zero, List.set_cons_succ]
      refine grow_run rfl rfl rfl ?_
      apply Exists.intro
      refine ⟨fun w' hC hK => ?_, ?_⟩
      · go_simp
        rfl
    simp only [Act.put, List.setIfInBounds_toArray, List.set_cons_zero, List.set_cons_succ]
    refine grow_eff rfl rfl rfl (fun w' hC hK => ?_) (fun v3 hv3 => ?_)
    · unfold growAt
      go_simp
      refine ⟨(Keep.refl _ _).alloc _, w'.heap.size + 1, ?_⟩
      have hz := hE1.size
      have hz' := hC.size
      have hh := (ha.ext hE1).ext (hC.alloc (.cells #[.slice A n c, .slice (if c = n then A else Option.map (fun x => x.add n) A) (m - n) (c - n), .slice none 0 0, .slice (if c = m then A else Option.map (fun x => x.add m) A) (l.length - m) (c - m)] 22))
      exact Bytess.four (Row.new (l := [_, _, _, _]) (by omega) (by simp [maxLen])) ((hh.front (by omega)).more (by omega)) ((hh.cut hnm hml).more (by omega)) (Bytes.nil _ _) (by have := (hh.cut hml (Nat.le_refl _)).more (B' := w'.heap.size + 1) (by omega); rwa [List.take_length] at this)
    simp only [Act.put, List.setIfInBounds_toArray, List.set_cons_zero, List.set_cons_succ]
    refine grow_eff rfl rfl rfl (fun w' hC hK => ?_) (fun v4 hv4 => ?_)
    · unfold growAt
      go_simp
      obtain ⟨B, hb⟩ := hK.get (i := 13) List.mem_cons_self (by kernel_rfl)
      refine grow_call ((sum_any _ _ _ _ hb).mono fun e w'' ⟨h1, h2⟩ => ⟨_, h1, h2, ?_⟩)
      have : [l.take n, (l.take m).drop n, [], l.drop m].flatten = l := by
        have e1 : l.take n ++ (l.take m).drop n = l.take m := by
          have := List.take_append_drop n (l.take m)
          rwa [List.take_take, Nat.min_eq_left hnm] at this
        simp only [List.flatten_cons, List.flatten_nil, List.append_nil, List.nil_append]
        rw [← List.append_assoc, e1, List.take_append_drop]
      rw [this]
    obtain ⟨_, _, rfl⟩ := hv4.head
    iterate 2
      simp only [Act.put, List.setIfInBounds_toArray, List.set_cons_zero, List.set_cons_succ]
      refine grow_run rfl rfl rfl ?_
      apply Exists.intro
      refine ⟨fun w' hC hK => ?_, ?_⟩
      · go_simp
        rfl
    simp only [Act.put, List.setIfInBounds_toArray, List.set_cons_zero, List.set_cons_succ]
    refine grow_nil fun w' hC _ => ?_
    have HB := hid (hE1.ext hC).toBelow
    clear hv hv2 hv3 hv4
    go_wp2
    all_goals
      go_ret
      exact ⟨rfl, HB.out⟩
  · have h2 : 1500 < l.length := by omega
    go_enter Try.func5, Try.ntmps5
    go_wp2_with fail
    refine (known_any w).mono ?_
    rintro e w1 ⟨rfl, hE1⟩
    go_wp2
    go_ret
    exact ⟨rfl, hE1.toBelow⟩
end Go.Proofs.Ytmmkoenkiobclaa
