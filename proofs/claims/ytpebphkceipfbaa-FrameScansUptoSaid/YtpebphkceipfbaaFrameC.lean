/- Frames: 'Open' of the program, by contract. -/
import Derived.Test.YtpebphkceipfbaaFrameB
import Derived.Test.YtpebphkceipfbaaCuts
set_option linter.unusedSimpArgs false
set_option linter.unusedVariables false
namespace Go.Proofs.Ytpebphkceipfbaa
open Go.RowKit
set_option linter.unusedVariables false

/-- What 'Open' gives. -/
def OpenIs (l : List UInt8) (w : World) (e : Ending) (w' : World) : Prop := match openL l with
  | none => e = .returned (.tuple #[.slice none 0 0, .int .i64 0, .int .u16 120]) ∧ Ext w w'
  | some x => ∃ v', e = .returned (.tuple #[v', .int .i64 ((8 + x.length : Nat) : Int), .int .u16 0]) ∧ BytesS w' (fun k => w.heap.size ≤ k) v' x ∧ Ext w w'
theorem OpenIs.no {l : List UInt8} {w w' : World} (h : openL l = none) (hE : Ext w w') : OpenIs l w (.returned (.tuple #[.slice none 0 0, .int .i64 0, .int .u16 120])) w' := by
  unfold OpenIs; rw [h]; exact ⟨rfl, hE⟩
theorem OpenIs.yes {l x : List UInt8} {w w' : World} {v' : Value} (h : openL l = some x) (hv : BytesS w' (fun k => w.heap.size ≤ k) v' x) (hE : Ext w w') : OpenIs l w (.returned (.tuple #[v', .int .i64 ((8 + x.length : Nat) : Int), .int .u16 0])) w' := by
  unfold OpenIs; rw [h]; exact ⟨v', rfl, hv, hE⟩

set_option maxHeartbeats 1600000 in
theorem open_any (v : Value) (l : List UInt8) (S : BS) (w : World) (hv : BytesS w S v l) :
    Calls Try.prog 11 #[v] w (OpenIs l w) := by
  obtain ⟨A, c, rfl, h1, h2⟩ := hv.shape
  unfold maxLen at h2
  by_cases hl : l.length < 8
  · have ho : openL l = none := by unfold openL; rw [if_pos hl]
    go_enter Try.func11, Try.ntmps11
    go_wp2
    go_ret3
    exact .no ho (Keep.refl _ _)
  have hn := numL_lt l (by omega)
  have hmin : ∀ w, (Builtin.min_ #[3, 3] 3 #[.int .i64 60000, .int .i64 ((l.length : Int) - 8)]).run Try.prog w = .ok (.int .i64 ((min 60000 (l.length - 8) : Nat) : Int)) w := by
    intro w
    rw [run_min_int2]
    congr 2
    split <;> omega
  by_cases hbig : min 60000 (l.length - 8) < numL l
  · have ho : openL l = none := by unfold openL; rw [if_neg hl, if_pos hbig]
    have hl' : 8 ≤ l.length := by omega
    go_enter Try.func11, Try.ntmps11
    go_wp2_with fail
    refine (number_any _ _ _ _ hv (by omega)).mono ?_
    rintro e w' ⟨rfl, rfl⟩
    generalize numL l = n at *
    generalize min 60000 (l.length - 8) = mn at *
    go_wp2
    go_ret3
    exact .no ho (Keep.refl _ _)
  obtain ⟨n, hnn⟩ : ∃ n, numL l = n := ⟨_, rfl⟩
  obtain ⟨x, hx⟩ : ∃ x, (l.drop 8).take n = x := ⟨_, rfl⟩
  have hxl : x.length = n := by rw [← hx]; simp; omega
  have hn6 : n ≤ 60000 := by omega
  have hn7 : 8 + n ≤ l.length := by omega
  have hin : (n : Int) ≤ 60000 := by omega
  have hmi : ((n : Int)) ≤ ((min 60000 (l.length - 8) : Nat) : Int) := by omega
  generalize min 60000 (l.length - 8) = mn at *
  have HN := hid hnn
  have HX := hid hx
  have HXL := hid hxl
  obtain ⟨A8, hs8, hv8⟩ := cut_fact (P := Try.prog) EU8.ok ty_u8 hv (lo := 8) (hi := 8 + n) (a := 8) (b := 8 + (n : Int)) rfl (by omega) (by omega) hn7
  obtain ⟨A4, hs4, hv4⟩ := tail_fact (P := Try.prog) EU8.ok ty_u8 hv (lo := 4) (a := 4) rfl (by omega)
  rw [show ((l.take (8 + n)).drop 8) = x from by rw [← hx, List.drop_take, Nat.add_sub_cancel_left]] at hv8
  rw [Nat.add_sub_cancel_left] at hs8 hv8
  have HV8 := hid hv8
  have HV4 := hid hv4
  have HV := hid hv
  clear hbig hn hx hxl hv4 hv8
  go_enter Try.func11, Try.ntmps11
  go_wp2_with fail
  refine (number_any _ _ _ _ hv (by omega)).mono ?_
  rintro e w' ⟨rfl, rfl⟩
  rw [hnn]
  clear hnn hv
  go_wp2_with fail
  obtain ⟨m4, hm4⟩ : ∃ m4, numL (l.drop 4) = m4 := ⟨_, rfl⟩
  obtain ⟨s, hs⟩ : ∃ s, (sumOf (l.take 4 ++ x)).toNat = s := ⟨_, rfl⟩
  have ho : openL l = if m4 ≠ s then none else some x := by
    unfold openL
    rw [if_neg hl, HN.out, HX.out, hm4, hs, if_neg (by have := hmin w; rw [run_min_int2] at this; injection this with this; injection this with _ this; split at this <;> omega)]
  have HM4 := hid hm4
  have HSS := hid hs
  have HO := hid ho
  obtain ⟨hsf, hvf⟩ := front_fact (P := Try.prog) EU8.ok ty_u8 HV.out (hi := 4) (b := 4) rfl (by omega)
  have HT := hid hvf
  clear hm4 hs ho hvf hmin
  refine wp_region_grow (specOf [(2, fun v w' => v = .int .u32 (m4 : Int)), (6, fun v w' => SlShape EBytes w' (fun _ => True) v 2 [l.take 4, x]), (7, fun v w' => v = .int .u32 (s : Int))])
    (fun w' => Ext w w') ?_ (stableC_ext _) (by kernel_rfl) (by kernel_rfl) (Keep.drew (Keep.refl _ _)) ?_
  · exact stable_cons (fun v w w' h he => h) (stable_cons (fun v w w' h he => h.ext EBytes.ok he) (stable_cons (fun v w w' h he => h) stable_nil))
  iterate 2
    (try simp only [Act.put, List.setIfInBounds_toArray, List.set_cons_zero, List.set_cons_succ])
    refine grow_run rfl rfl rfl ?_
    apply Exists.intro
    refine ⟨fun w' hC hK => ?_, ?_⟩
    · go_simp
      rfl
  (try simp only [Act.put, List.setIfInBounds_toArray, List.set_cons_zero, List.set_cons_succ])
  refine grow_eff rfl rfl rfl (fun w' hC hK => ?_) (fun v2 hv2 => ?_)
  · unfold growAt
    go_simp
    refine grow_call ((number_any _ _ _ _ (HV4.out.ext EU8.ok hC) (by simp; omega)).mono ?_)
    rintro e w'' ⟨rfl, rfl⟩
    exact ⟨_, rfl, Keep.refl _ _, by rw [HM4.out]⟩
  obtain rfl : v2 = .int .u32 (m4 : Int) := hv2.head.elim fun _ h => h.2
  clear hv2
  iterate 3
    (try simp only [Act.put, List.setIfInBounds_toArray, List.set_cons_zero, List.set_cons_succ])
    refine grow_run rfl rfl rfl ?_
    apply Exists.intro
    refine ⟨fun w' hC hK => ?_, ?_⟩
    · go_simp
      rfl
  (try simp only [Act.put, List.setIfInBounds_toArray, List.set_cons_zero, List.set_cons_succ])
  refine grow_eff rfl rfl rfl (fun w' hC hK => ?_) (fun v6 hv6 => ?_)
  · unfold growAt
    go_simp
    exact ⟨(Keep.refl _ _).alloc _, _, _, rfl, (sl_two (bytes_any (HT.out.ext EU8.ok hC)) (bytes_any (HV8.out.ext EU8.ok hC))).more EBytes.ok fun _ _ _ => trivial⟩
  obtain ⟨_, _, A6, c6, rfl, _⟩ := hv6.head
  clear hv6
  (try simp only [Act.put, List.setIfInBounds_toArray, List.set_cons_zero, List.set_cons_succ])
  refine grow_eff rfl rfl rfl (fun w' hC hK => ?_) (fun v7 hv7 => ?_)
  · unfold growAt
    go_simp
    obtain ⟨_, _, e7, f7⟩ : SlShape EBytes w' (fun _ => True) (.slice A6 2 c6) 2 [l.take 4, x] := hK.get (i := 6) List.mem_cons_self (by kernel_rfl)
    refine grow_call ((sum_any _ _ _ _ (bytess_of_S f7)).mono ?_)
    rintro e w'' ⟨rfl, hE⟩
    exact ⟨_, rfl, hE, by rw [← HSS.out]; simp [U32]⟩
  obtain rfl : v7 = .int .u32 (s : Int) := hv7.head.elim fun _ h => h.2
  clear hv7
  by_cases hq : m4 = s
  · subst hq
    iterate 1
      (try simp only [Act.put, List.setIfInBounds_toArray, List.set_cons_zero, List.set_cons_succ])
      refine grow_run rfl rfl rfl ?_
      apply Exists.intro
      refine ⟨fun w' hC hK => ?_, ?_⟩
      · go_simp
        rfl
    refine grow_nil fun w6 hC _ => ?_
    have HC := hid hC
    clear hC
    go_wp2_with fail
    have hx6 : x.length ≤ 140737488355328 := by have := HXL.out; omega
    refine (clone_bytes _ _ _ _ (HV8.out.ext EU8.ok HC.out) hx6).mono ?_
    rintro e w7 ⟨v7, rfl, hv7, hE7⟩
    have hz := HC.out.size
    have H7 := hid (hv7.more (S' := fun k => w.heap.size ≤ k) EU8.ok fun k _ h => by omega)
    have HE := hid (HC.out.ext hE7)
    obtain ⟨A7, c7, rfl, _⟩ := hv7.shape
    clear hv7 hE7
    go_wp2
    go_ret3
    have := OpenIs.yes (w := w) (by rw [HO.out, if_neg (by simp)]) H7.out HE.out
    rw [show ((8 + x.length : Nat) : Int) = 8 + (n : Int) from by have := HXL.out; omega] at this
    simpa using this
  · skip
    iterate 1
      (try simp only [Act.put, List.setIfInBounds_toArray, List.set_cons_zero, List.set_cons_succ])
      refine grow_run rfl rfl rfl ?_
      apply Exists.intro
      refine ⟨fun w' hC hK => ?_, ?_⟩
      · go_simp
        rfl
    refine grow_nil fun w6 hC _ => ?_
    have HC := hid hC
    clear hC
    go_wp2
    go_ret3
    exact .no (by rw [HO.out, if_pos hq]) HC.out
end Go.Proofs.Ytpebphkceipfbaa
