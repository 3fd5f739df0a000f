/- Frames: the reference's 'Wrap' and 'Open', by contract. -/
import Derived.Test.YtpebphkceipfbaaFrameC
set_option linter.unusedSimpArgs false
set_option linter.unusedVariables false
namespace Go.Proofs.Ytpebphkceipfbaa
open Go.RowKit
set_option linter.unusedVariables false

set_option maxHeartbeats 800000 in
theorem ref_wrap_long (v : Value) (l : List UInt8) (S : BS) (w : World) (hv : BytesS w S v l) (hl : 60000 < l.length) :
    Calls Try.prog 10 #[v] w fun e w' => e = .returned (.tuple #[.slice none 0 0, .int .i64 3]) ∧ w = w' := by
  obtain ⟨A, c, rfl, h1, h2⟩ := hv.shape
  unfold maxLen at h2
  have hli : 60000 < (l.length : Int) := by omega
  go_enter Try.func10, Try.ntmps10
  go_wp2
  go_ret2
  exact ⟨rfl, rfl⟩
set_option maxHeartbeats 800000 in
theorem ref_wrap_ok (v : Value) (l : List UInt8) (S : BS) (w : World) (hv : BytesS w S v l) (hl : l.length ≤ 60000) :
    Calls Try.prog 10 #[v] w fun e w' => ∃ v', e = .returned (.tuple #[v', .int .i64 0]) ∧ Own EU8 w' w.heap.size 5 (fun _ => False) v' (frm l) ∧ Ext w w' := by
  obtain ⟨A, c, rfl, h1, h2⟩ := hv.shape
  unfold maxLen at h2
  have hli : (l.length : Int) ≤ 60000 := by omega
  go_enter Try.func10, Try.ntmps10
  go_wp2_with fail
  refine (ref_four l.length (by omega) _).mono ?_
  rintro e w1 ⟨v1, rfl, hv1, hE1⟩
  obtain ⟨A1, c1, rfl, _⟩ := hv1.shape
  rw [fourL_length] at hv1 ⊢
  have HV1 := hid hv1
  have HE1 := hid hE1
  have HV := hid (bytes_any hv)
  clear hv1 hE1 hv
  go_wp2_with (at_builtin; refine wpList_append_bytes rfl (.tmp 13) (.tmp 14) ty_u8 rfl rfl rfl (Own.nil _ w.heap.size _ (fun _ => False)) HV1.out ?c1 ?c2 ?c3 ?_)
  case c1 => intro g hg; cases hg
  case c2 => simp [fourL]
  case c3 => exact HE1.out.size
  intro A2 c2 w2 hown2 hc2 hc2' hk2
  have HE2 := hid (show Ext w w2 from HE1.out.trans hk2 fun k _ e => by cases e)
  have HO2 := hid hown2
  have HV2 := hid ((bytes_any HV1.out).ext EU8.ok (hk2.mono fun k _ e => by cases e))
  clear hown2 hk2 HV1 HE1
  rw [fourL_length] at HO2 hc2 ⊢
  go_wp2_with fail
  refine (ref_sum_ext _ _ _ _ (bytess_two (t := 22) (f := (0, 0)) HV2.out (HV.out.ext EU8.ok HE2.out))).mono ?_
  rintro e w3 ⟨rfl, hE3⟩
  have hA3 : Ext w2 w3 := ((Keep.refl _ _).alloc _).ext hE3
  rw [show [fourL l.length, l].flatten = fourL l.length ++ l from by simp]
  have hlt := (sumOf (fourL l.length ++ l)).isLt
  unfold U32
  generalize hs : (sumOf (fourL l.length ++ l)).toNat = s at *
  have HS := hid hs
  have HE3 := hid (HE2.out.ext hA3)
  have HO3 := hid (HO2.out.ext EU8.ok hA3)
  clear hE3 hs hA3 HE2 HO2 HV2
  go_wp2_with fail
  refine (ref_four s hlt _).mono ?_
  rintro e w4 ⟨v4, rfl, hv4, hE4⟩
  obtain ⟨A4, c4, rfl, _⟩ := hv4.shape
  rw [fourL_length] at hv4 ⊢
  have HV4 := hid (hv4.more (S' := fun k => w3.heap.size ≤ k) EU8.ok fun k _ h => h)
  have HE4 := hid (HE3.out.ext hE4)
  have HO4 := hid (HO3.out.ext EU8.ok hE4)
  have HL4 := hid (fun g (e : (Value.slice A2 4 c2).ownBlock = some g) => (HO3.out.lt e).2)
  clear hv4 hE4 HE3 HO3
  go_wp2_with (at_builtin; refine wpList_append_bytes rfl (.tmp 16) (.tmp 21) ty_u8 rfl rfl rfl HO4.out HV4.out ?d1 ?d2 ?d3 ?_)
  case d1 => intro g hg h; have := HL4.out g hg; omega
  case d2 => simp [fourL]
  case d3 => exact HE4.out.size
  intro A5 c5 w5 hown5 hc5 hc5' hk5
  have HE5 := hid (HE4.out.trans hk5 fun k hk e => by have := (HO4.out.lt e).1; omega)
  have HO5 := hid hown5
  have HV5 := hid ((HV.out.more (S' := fun k => k < w.heap.size) EU8.ok fun k h _ => h).ext EU8.ok HE5.out)
  have HL5 := hid (fun g (e : (Value.slice A5 8 c5).ownBlock = some g) => (hown5.lt e).1)
  clear hown5 hk5 HO4 HE4 HV4 HL4
  rw [show (fourL l.length).length + (fourL s).length = 8 from rfl] at HO5 hc5 ⊢
  go_wp2_with (at_builtin; refine wpList_append_bytes rfl (.tmp 23) (.tmp 24) ty_u8 rfl rfl rfl HO5.out HV5.out ?e1 ?e2 ?e3 ?_)
  case e1 => intro g hg h; have := HL5.out g hg; omega
  case e2 => simp [fourL]; omega
  case e3 => exact HE5.out.size
  intro A6 c6 w6 hown6 hc6 hc6' hk6
  have HE6 := hid (HE5.out.trans hk6 fun k hk e => by have := HL5.out k e; omega)
  rw [show fourL l.length ++ (fourL s ++ l) = frm l from by simp [frm, HS.out]] at hown6
  have HO6 := hid hown6
  clear hown6 hk6 HO5 HE5 HV5 HL5
  go_wp2
  go_ret2
  exact ⟨_, rfl, HO6.out, HE6.out⟩

/-- What the reference's 'Open' gives. -/
def RefOpenIs (l : List UInt8) (w : World) (e : Ending) (w' : World) : Prop := match openL l with
  | none => e = .returned (.tuple #[.slice none 0 0, .int .i64 0, .int .i64 120]) ∧ Ext w w'
  | some x => ∃ v', e = .returned (.tuple #[v', .int .i64 ((8 + x.length : Nat) : Int), .int .i64 0]) ∧ BytesS w' (fun k => w.heap.size ≤ k) v' x ∧ Ext w w'
theorem RefOpenIs.no {l : List UInt8} {w w' : World} (h : openL l = none) (hE : Ext w w') : RefOpenIs l w (.returned (.tuple #[.slice none 0 0, .int .i64 0, .int .i64 120])) w' := by
  unfold RefOpenIs; rw [h]; exact ⟨rfl, hE⟩
theorem RefOpenIs.yes {l x : List UInt8} {w w' : World} {v' : Value} (h : openL l = some x) (hv : BytesS w' (fun k => w.heap.size ≤ k) v' x) (hE : Ext w w') : RefOpenIs l w (.returned (.tuple #[v', .int .i64 ((8 + x.length : Nat) : Int), .int .i64 0])) w' := by
  unfold RefOpenIs; rw [h]; exact ⟨v', rfl, hv, hE⟩

set_option maxHeartbeats 1600000 in
theorem ref_open (v : Value) (l : List UInt8) (S : BS) (w : World) (hv : BytesS w S v l) :
    Calls Try.prog 12 #[v] w (RefOpenIs l w) := by
  obtain ⟨A, c, rfl, h1, h2⟩ := hv.shape
  unfold maxLen at h2
  by_cases hl : l.length < 8
  · have ho : openL l = none := by unfold openL; rw [if_pos hl]
    go_enter Try.func12, Try.ntmps12
    go_wp2
    go_ret3
    exact .no ho (Keep.refl _ _)
  have hl' : ¬ (l.length : Int) < 8 := by omega
  have HV := hid hv
  clear hv
  obtain ⟨n, hnn⟩ : ∃ n, numL l = n := ⟨_, rfl⟩
  have HN := hid hnn
  clear hnn
  by_cases hb1 : 60000 < n
  · have ho : openL l = none := by unfold openL; rw [if_neg hl, HN.out, if_pos (by omega)]
    go_enter Try.func12, Try.ntmps12
    go_wp2_with fail
    refine (ref_number _ _ _ _ HV.out (by omega)).mono ?_
    rintro e w1 ⟨rfl, hE⟩
    rw [HN.out]
    have HE := hid hE
    clear hE
    go_wp2
    go_ret3
    exact .no ho HE.out
  by_cases hb2 : l.length < 8 + n
  · have ho : openL l = none := by unfold openL; rw [if_neg hl, HN.out, if_pos (by omega)]
    go_enter Try.func12, Try.ntmps12
    go_wp2_with fail
    refine (ref_number _ _ _ _ HV.out (by omega)).mono ?_
    rintro e w1 ⟨rfl, hE⟩
    rw [HN.out]
    have HE := hid hE
    clear hE
    go_wp2_with fail
    refine (ref_number _ _ _ _ (HV.out.ext EU8.ok HE.out) (by omega)).mono ?_
    rintro e w2 ⟨rfl, hE⟩
    rw [HN.out]
    have HE2 := hid (HE.out.ext hE)
    clear hE HE
    go_wp2
    go_ret3
    exact .no ho HE2.out
  obtain ⟨x, hx⟩ : ∃ x, (l.drop 8).take n = x := ⟨_, rfl⟩
  have hxl : x.length = n := by rw [← hx]; simp; omega
  have hn6 : n ≤ 60000 := by omega
  have hn7 : 8 + n ≤ l.length := by omega
  have hin : (n : Int) ≤ 60000 := by omega
  have HX := hid hx
  have HXL := hid hxl
  obtain ⟨A8, hs8, hv8⟩ := cut_fact (P := Try.prog) EU8.ok ty_u8 HV.out (lo := 8) (hi := 8 + n) (a := 8) (b := 8 + (n : Int)) rfl (by omega) (by omega) hn7
  obtain ⟨A4, hs4, hv4⟩ := tail_fact (P := Try.prog) EU8.ok ty_u8 HV.out (lo := 4) (a := 4) rfl (by omega)
  obtain ⟨hsf, hvf⟩ := front_fact (P := Try.prog) EU8.ok ty_u8 HV.out (hi := 4) (b := 4) rfl (by omega)
  rw [show ((l.take (8 + n)).drop 8) = x from by rw [← hx, List.drop_take, Nat.add_sub_cancel_left]] at hv8
  rw [Nat.add_sub_cancel_left] at hs8 hv8
  obtain ⟨m4, hm4⟩ : ∃ m4, numL (l.drop 4) = m4 := ⟨_, rfl⟩
  obtain ⟨s, hs⟩ : ∃ s, (sumOf (l.take 4 ++ x)).toNat = s := ⟨_, rfl⟩
  have ho : openL l = if m4 ≠ s then none else some x := by
    unfold openL
    rw [if_neg hl, HN.out, HX.out, hm4, hs, if_neg (by omega)]
  have HM4 := hid hm4
  have HSS := hid hs
  have HO := hid ho
  have HV8 := hid (hv8.more (S' := fun k => k < w.heap.size) EU8.ok fun k h _ => h)
  have HV4 := hid hv4
  have HVF := hid hvf
  clear hx hxl hv4 hv8 hvf hm4 hs ho hb1
  go_enter Try.func12, Try.ntmps12
  go_wp2_with fail
  refine (ref_number _ _ _ _ HV.out (by omega)).mono ?_
  rintro e w1 ⟨rfl, hE⟩
  rw [HN.out]
  have HE := hid hE
  clear hE
  go_wp2_with fail
  refine (ref_number _ _ _ _ (HV.out.ext EU8.ok HE.out) (by omega)).mono ?_
  rintro e w2 ⟨rfl, hE⟩
  rw [HN.out]
  have HE2 := hid (HE.out.ext hE)
  clear hE HE
  go_wp2_with fail
  refine (ref_number _ _ _ _ (HV.out.ext EU8.ok HE2.out) (by omega)).mono ?_
  rintro e w3 ⟨rfl, hE⟩
  rw [HN.out]
  have HE3 := hid (HE2.out.ext hE)
  clear hE HE2
  go_wp2_with fail
  have hwr : IntKind.i64.wrap (8 + (n : Int)) = 8 + (n : Int) := IntWalk.i64_in _ (by omega)
  refine wp_region_grow (specOf [(2, fun v w' => v = .int .u32 (m4 : Int)), (9, fun v w' => SlShape EBytes w' (fun _ => True) v 2 [l.take 4, x]), (10, fun v w' => v = .int .u32 (s : Int))])
    (fun w' => Ext w w') ?_ (stableC_ext _) (by kernel_rfl) (by kernel_rfl) (Keep.drew HE3.out) ?_
  · exact stable_cons (fun v w w' h he => h) (stable_cons (fun v w w' h he => h.ext EBytes.ok he) (stable_cons (fun v w w' h he => h) stable_nil))
  iterate 2
    (try simp only [Act.put, List.setIfInBounds_toArray, List.set_cons_zero, List.set_cons_succ])
    refine grow_run rfl rfl rfl ?_
    apply Exists.intro
    refine ⟨fun w' hC hK => ?_, ?_⟩
    · go_simp
      rfl
  (try simp only [Act.put, List.setIfInBounds_toArray, List.set_cons_zero, List.set_cons_succ])
  refine grow_eff rfl rfl rfl (fun w' hC hK => ?_) (fun v2 hv2 => ?_)
  · unfold growAt
    go_simp
    refine grow_call ((ref_number _ _ _ _ (HV4.out.ext EU8.ok hC) (by simp; omega)).mono ?_)
    rintro e w'' ⟨rfl, hE⟩
    exact ⟨_, rfl, hE, by rw [HM4.out]⟩
  obtain rfl : v2 = .int .u32 (m4 : Int) := hv2.head.elim fun _ h => h.2
  clear hv2
  iterate 6
    (try simp only [Act.put, List.setIfInBounds_toArray, List.set_cons_zero, List.set_cons_succ])
    refine grow_run rfl rfl rfl ?_
    apply Exists.intro
    refine ⟨fun w' hC hK => ?_, ?_⟩
    · go_simp
      rfl
  (try simp only [Act.put, List.setIfInBounds_toArray, List.set_cons_zero, List.set_cons_succ])
  refine grow_eff rfl rfl rfl (fun w' hC hK => ?_) (fun v6 hv6 => ?_)
  · unfold growAt
    go_simp
    exact ⟨(Keep.refl _ _).alloc _, _, _, rfl, (sl_two (bytes_any (HVF.out.ext EU8.ok hC)) (bytes_any (HV8.out.ext EU8.ok hC))).more EBytes.ok fun _ _ _ => trivial⟩
  obtain ⟨_, _, A6, c6, rfl, _⟩ := hv6.head
  clear hv6
  (try simp only [Act.put, List.setIfInBounds_toArray, List.set_cons_zero, List.set_cons_succ])
  refine grow_eff rfl rfl rfl (fun w' hC hK => ?_) (fun v7 hv7 => ?_)
  · unfold growAt
    go_simp
    obtain ⟨_, _, e7, f7⟩ : SlShape EBytes w' (fun _ => True) (.slice A6 2 c6) 2 [l.take 4, x] := hK.get (i := 9) List.mem_cons_self (by kernel_rfl)
    refine grow_call ((ref_sum_ext _ _ _ _ (bytess_of_S f7)).mono ?_)
    rintro e w'' ⟨rfl, hE⟩
    exact ⟨_, rfl, hE, by rw [← HSS.out]; simp [U32]⟩
  obtain rfl : v7 = .int .u32 (s : Int) := hv7.head.elim fun _ h => h.2
  clear hv7 hwr
  by_cases hq : m4 = s
  · subst hq
    iterate 1
      (try simp only [Act.put, List.setIfInBounds_toArray, List.set_cons_zero, List.set_cons_succ])
      refine grow_run rfl rfl rfl ?_
      apply Exists.intro
      refine ⟨fun w' hC hK => ?_, ?_⟩
      · go_simp
        rfl
    refine grow_nil fun w6 hC _ => ?_
    have HC := hid hC
    clear hC
    have HV9 := hid (HV8.out.ext EU8.ok HC.out)
    go_wp2_with (at_builtin; refine wpList_append_bytes rfl (.tmp 39) (.tmp 43) ty_u8 rfl rfl rfl (Own.nil _ w.heap.size _ (fun _ => False)) HV9.out ?e1 ?e2 ?e3 ?_)
    case e1 => intro g hg; cases hg
    case e2 => have := HXL.out; simp; omega
    case e3 => exact HC.out.size
    intro A7 c7 w7 hown7 hc7 hc7' hk7
    have HE := hid (show Ext w w7 from HC.out.trans hk7 fun k _ e => by cases e)
    have H7 := hid (own_new hown7)
    clear hown7 hk7
    go_wp2
    go_ret3
    have := RefOpenIs.yes (w := w) (by rw [HO.out, if_neg (by simp)]) H7.out HE.out
    rw [show ((8 + x.length : Nat) : Int) = 8 + (n : Int) from by have := HXL.out; omega] at this
    simpa using this
  · skip
    iterate 1
      (try simp only [Act.put, List.setIfInBounds_toArray, List.set_cons_zero, List.set_cons_succ])
      refine grow_run rfl rfl rfl ?_
      apply Exists.intro
      refine ⟨fun w' hC hK => ?_, ?_⟩
      · go_simp
        rfl
    refine grow_nil fun w6 hC _ => ?_
    have HC := hid hC
    clear hC
    go_wp2
    go_ret3
    exact .no (by rw [HO.out, if_pos hq]) HC.out
end Go.Proofs.Ytpebphkceipfbaa
