/- Do6B: laid together. -/
import Derived.Test.YtioplgfopillnaaDoorTiB22
/- The reference's Sound of a component: true of a sound one. -/
set_option linter.unusedSimpArgs false
set_option linter.unusedVariables false
namespace Go.Proofs.YtioplgfopillnaaDoor
open Go.RowKit
set_option linter.unusedVariables false

set_option maxRecDepth 20000 in
set_option maxHeartbeats 25600000 in
theorem rsound6_ok (w0 : World) (hva : ValAny w0) (w : World) (hw : Ext w0 w) (S : BS) (u : Value) (c : Cp) (h : CAt w S u c) (hs : Snd6 c) :
    Calls Tryd.prog 70 #[u] w fun e w' => e = .returned (.bool true) ∧ Ext w w' := by
  obtain ⟨k, p, key, i, j, n, v, s⟩ := c
  obtain ⟨pv, lv, ov, rfl, h1, h2, h3⟩ := h
  obtain ⟨s1, s2, s3, s4, s5, s6, s7, s8, s9, s10, s11, s12, s13, s14, s15, s16, s17, s18, s19, s20, s21, s22⟩ := hs
  simp only at h1 h2 h3 s1 s2 s3 s4 s5 s6 s7 s8 s9 s10 s11 s12 s13 s14 s15 s16 s17 s18 s19 s20 s21 s22
  obtain ⟨Ap, cp, rfl, hpl, hpm⟩ := h1.shape
  obtain ⟨Al, cl, rfl, _⟩ := h2.shape
  obtain ⟨Ao, co, rfl, _⟩ := h3.shape
  obtain ⟨W, hW⟩ : ∃ W, w.alloc (.cells (cpCells ⟨k, p, key, i, j, n, v, s⟩ (.slice Ap p.length cp) (.slice Al v.l.length cl) (.slice Ao v.o.length co)) TCMP) = W := ⟨_, rfl⟩
  have hE : Ext w W := by rw [← hW]; exact (Keep.refl _ _).alloc _
  have hb : Blk W w.heap.size TCMP (#[U8 k, .slice Ap p.length cp, .string key, .int .i64 i, .int .i64 j, .int .i64 n, U8 v.kind, .int .i64 v.n, .string v.s, .slice Al v.l.length cl, .slice Ao v.o.length co, .string s] : Array Value) := by rw [← hW]; exact Blk.new _ _ _
  have HP := hid (h1.ext ESt.ok hE)
  have HV := hid (show VAt W S (.agg #[U8 v.kind, .int .i64 v.n, .string v.s, .slice Al v.l.length cl, .slice Ao v.o.length co]) v from ⟨_, _, rfl, h2.ext EVal.ok hE, h3.ext EField.ok hE⟩)
  have HE := hid hE
  have HB := hid hb
  have HVA := hid (show ValAny W from fun s hs w' he => hva s hs w' ((hw.ext hE).ext he))
  have hk9 : k = 1 ∨ k = 2 ∨ k = 3 ∨ k = 4 ∨ k = 5 ∨ k = 6 ∨ k = 7 ∨ k = 8 ∨ k = 9 := by
    have : k.toNat = 1 ∨ k.toNat = 2 ∨ k.toNat = 3 ∨ k.toNat = 4 ∨ k.toNat = 5 ∨ k.toNat = 6 ∨ k.toNat = 7 ∨ k.toNat = 8 ∨ k.toNat = 9 := by omega
    rcases this with h | h | h | h | h | h | h | h | h
    · exact .inl (UInt8.toNat_inj.1 h)
    · exact .inr (.inl (UInt8.toNat_inj.1 h))
    · exact .inr (.inr (.inl (UInt8.toNat_inj.1 h)))
    · exact .inr (.inr (.inr (.inl (UInt8.toNat_inj.1 h))))
    · exact .inr (.inr (.inr (.inr (.inl (UInt8.toNat_inj.1 h)))))
    · exact .inr (.inr (.inr (.inr (.inr (.inl (UInt8.toNat_inj.1 h))))))
    · exact .inr (.inr (.inr (.inr (.inr (.inr (.inl (UInt8.toNat_inj.1 h)))))))
    · exact .inr (.inr (.inr (.inr (.inr (.inr (.inr (.inl (UInt8.toNat_inj.1 h))))))))
    · exact .inr (.inr (.inr (.inr (.inr (.inr (.inr (.inr (UInt8.toNat_inj.1 h))))))))
  have S2 := hid s2
  have S9 := hid s9
  have S10 := hid s10
  have S11 := hid s11
  have S12 := hid s12
  have S13 := hid s13
  have S14 := hid s14
  have S15 := hid s15
  have S16 := hid s16
  have S17 := hid s17
  have S18 := hid s18
  have S19 := hid s19
  have S20 := hid s20
  have S21 := hid s21
  have S22 := hid s22
  clear h1 h2 h3 hE hb s1 s2 s9 s10 s11 s12 s13 s14 s15 s16 s17 s18 s19 s20 s21 s22 hpl hpm hva hw
  rcases hk9 with rfl | rfl | rfl | rfl | rfl | rfl | rfl | rfl | rfl
  · obtain rfl := s3.resolve_left (by decide)
    obtain rfl := s4.resolve_left (by decide)
    obtain rfl := s5.resolve_left (by decide)
    clear s6
    obtain rfl := s7.resolve_left (by decide)
    obtain rfl := s8.resolve_left (by decide)
    have x0 := HB.out.cell 0
    have x1 := HB.out.cell 1
    have x2 := HB.out.cell 2
    have x3 := HB.out.cell 3
    have x4 := HB.out.cell 4
    have x5 := HB.out.cell 5
    have x6 := HB.out.cell 6
    have x7 := HB.out.cell 7
    have x8 := HB.out.cell 8
    have x9 := HB.out.cell 9
    have x10 := HB.out.cell 10
    have x11 := HB.out.cell 11
    simp at x0 x1 x2 x3 x4 x5 x6 x7 x8 x9 x10 x11
    go_enter Tryd.func70, Tryd.ntmps70
    go_wp2_with fail
    refine (says_ok W 1 (by decide)).mono ?_
    rintro e _ ⟨rfl, rfl⟩
    rw [show textOf (saysN (1 : UInt8).toNat) = ⟨#[78]⟩ from rfl]
    go_wp2_with fail
    refine (rsnd_ok W W HVA.out (Keep.refl _ _) _ _ _ HP.out S22.out).mono ?_
    rintro e w2 ⟨rfl, hE2⟩
    clear hW
    rw [show (decide (p.length ≤ 16) && !p.any badS) = true from by rw [S2.out.2]; simp; exact S2.out.1]
    have HB2 := hid (HB.out.keep hE2 id)
    have HE2 := hid (HE.out.ext hE2)
    have HX2 := hid hE2
    clear hE2 x0 x1 x2 x3 x4 x5 x6 x7 x8 x9 x10 x11
    have x0 := HB2.out.cell 0
    have x1 := HB2.out.cell 1
    have x2 := HB2.out.cell 2
    have x3 := HB2.out.cell 3
    have x4 := HB2.out.cell 4
    have x5 := HB2.out.cell 5
    have x6 := HB2.out.cell 6
    have x7 := HB2.out.cell 7
    have x8 := HB2.out.cell 8
    have x9 := HB2.out.cell 9
    have x10 := HB2.out.cell 10
    have x11 := HB2.out.cell 11
    simp at x0 x1 x2 x3 x4 x5 x6 x7 x8 x9 x10 x11
    go_wp2_with fail
    refine (in6_ok w2 ⟨#[78]⟩ 75 (by decide)).mono ?_
    rintro e _ ⟨rfl, rfl⟩
    rw [show hasC ⟨#[78]⟩ 75 = false from rfl]
    go_wp2_with fail
    refine (in6_ok w2 ⟨#[78]⟩ 73 (by decide)).mono ?_
    rintro e _ ⟨rfl, rfl⟩
    rw [show hasC ⟨#[78]⟩ 73 = false from rfl]
    go_wp2_with fail
    refine (in6_ok w2 ⟨#[78]⟩ 74 (by decide)).mono ?_
    rintro e _ ⟨rfl, rfl⟩
    rw [show hasC ⟨#[78]⟩ 74 = false from rfl]
    go_wp2_with fail
    refine (in6_ok w2 ⟨#[78]⟩ 78 (by decide)).mono ?_
    rintro e _ ⟨rfl, rfl⟩
    rw [show hasC ⟨#[78]⟩ 78 = true from rfl]
    go_wp2_with fail
    refine (in6_ok w2 ⟨#[78]⟩ 83 (by decide)).mono ?_
    rintro e _ ⟨rfl, rfl⟩
    rw [show hasC ⟨#[78]⟩ 83 = false from rfl]
    go_wp2_with fail
    refine (in6_ok w2 ⟨#[78]⟩ 86 (by decide)).mono ?_
    rintro e _ ⟨rfl, rfl⟩
    rw [show hasC ⟨#[78]⟩ 86 = false from rfl]
    go_wp2_with fail
    refine (same_eq _ (.mk 0 0 ⟨#[]⟩ [] []) (Nat.le_refl _) _ _ _ _ w2 (HV.out.ext HX2.out) ⟨_, _, rfl, Sl.nil _ (fun _ => True), Sl.nil _ _⟩).mono ?_
    rintro e w3 ⟨rfl, hE3⟩
    have HB3 := hid (HB2.out.keep hE3 id)
    have HE3 := hid (HE2.out.ext hE3)
    have HX3 := hid (HX2.out.ext hE3)
    clear hE3 x0 x1 x2 x3 x4 x5 x6 x7 x8 x9 x10 x11
    have x0 := HB3.out.cell 0
    have x1 := HB3.out.cell 1
    have x2 := HB3.out.cell 2
    have x3 := HB3.out.cell 3
    have x4 := HB3.out.cell 4
    have x5 := HB3.out.cell 5
    have x6 := HB3.out.cell 6
    have x7 := HB3.out.cell 7
    have x8 := HB3.out.cell 8
    have x9 := HB3.out.cell 9
    have x10 := HB3.out.cell 10
    have x11 := HB3.out.cell 11
    simp at x0 x1 x2 x3 x4 x5 x6 x7 x8 x9 x10 x11
    go_wp2_with fail
    refine (HVA.out _ (by have := S20.out; omega) w3 HX3.out).mono ?_
    rintro e w4 ⟨rfl, hE4⟩
    rw [S9.out]
    have HB4 := hid (HB3.out.keep hE4 id)
    have HE4 := hid (HE3.out.ext hE4)
    have HX4 := hid (HX3.out.ext hE4)
    clear hE4 x0 x1 x2 x3 x4 x5 x6 x7 x8 x9 x10 x11
    have x0 := HB4.out.cell 0
    have x1 := HB4.out.cell 1
    have x2 := HB4.out.cell 2
    have x3 := HB4.out.cell 3
    have x4 := HB4.out.cell 4
    have x5 := HB4.out.cell 5
    have x6 := HB4.out.cell 6
    have x7 := HB4.out.cell 7
    have x8 := HB4.out.cell 8
    have x9 := HB4.out.cell 9
    have x10 := HB4.out.cell 10
    have x11 := HB4.out.cell 11
    simp at x0 x1 x2 x3 x4 x5 x6 x7 x8 x9 x10 x11
    go_wp2_with fail
    refine (HVA.out _ (by have := S21.out; omega) w4 HX4.out).mono ?_
    rintro e w5 ⟨rfl, hE5⟩
    rw [S10.out]
    have HB5 := hid (HB4.out.keep hE5 id)
    have HE5 := hid (HE4.out.ext hE5)
    have HX5 := hid (HX4.out.ext hE5)
    clear hE5 x0 x1 x2 x3 x4 x5 x6 x7 x8 x9 x10 x11
    have x0 := HB5.out.cell 0
    have x1 := HB5.out.cell 1
    have x2 := HB5.out.cell 2
    have x3 := HB5.out.cell 3
    have x4 := HB5.out.cell 4
    have x5 := HB5.out.cell 5
    have x6 := HB5.out.cell 6
    have x7 := HB5.out.cell 7
    have x8 := HB5.out.cell 8
    have x9 := HB5.out.cell 9
    have x10 := HB5.out.cell 10
    have x11 := HB5.out.cell 11
    simp at x0 x1 x2 x3 x4 x5 x6 x7 x8 x9 x10 x11
    go_wp2_with fail
    have h16 : (p.length : Int) + 1 + (((.mk 0 0 ⟨#[]⟩ [] []) : V).deep : Int) ≤ 16 := by have := S16.out; omega
    have h20 : (((.mk 0 0 ⟨#[]⟩ [] []) : V).weight : Int) ≤ 20000 := by have := S17.out; omega
    have hp16 : (p.length : Int) ≤ 16 := by have := S2.out.1; omega
    have hd16 : (((.mk 0 0 ⟨#[]⟩ [] []) : V).deep : Int) ≤ 16 := by omega
    have hww : wrap64 (((.mk 0 0 ⟨#[]⟩ [] []) : V).weight : Int) = (((.mk 0 0 ⟨#[]⟩ [] []) : V).weight : Int) := by unfold wrap64; omega
    have HWW := hid hww
    clear hww
    have HSN := hid (fun w' (he : Ext w5 w') => rsound_any w' (fun s hs w'' h => HVA.out s hs w'' ((HX5.out.ext he).ext h)) _ (.mk 0 0 ⟨#[]⟩ [] []) (Nat.le_refl _) S18.out _ _ w' (Keep.refl _ _) (HV.out.ext (HX5.out.ext he)))
    have HDP := hid (fun w' (he : Ext w5 w') => rdeep_any _ (.mk 0 0 ⟨#[]⟩ [] []) (Nat.le_refl _) S19.out _ _ w' (HV.out.ext (HX5.out.ext he)))
    have HWT := hid (fun w' (he : Ext w5 w') => rweight_any _ (.mk 0 0 ⟨#[]⟩ [] []) (Nat.le_refl _) _ _ w' (HV.out.ext (HX5.out.ext he)))
    generalize hdp : ((.mk 0 0 ⟨#[]⟩ [] []) : V).deep = dp at *
    generalize hwt : ((.mk 0 0 ⟨#[]⟩ [] []) : V).weight = wt at *
    clear hdp hwt
    have hw1 : IntKind.i64.wrap ((p.length : Int) + 1) = (p.length : Int) + 1 := by rw [IntKind.wrap_i64]; omega
    have hw2 : IntKind.i64.wrap ((p.length : Int) + 1 + (dp : Int)) = (p.length : Int) + 1 + (dp : Int) := by rw [IntKind.wrap_i64]; omega
    refine wp_region_grow (specOf [(2, fun u w' => u = .bool true), (10, fun u w' => u = .int .i64 (dp : Int)), (17, fun u w' => u = .int .i64 (wt : Int))]) (fun w' => Ext w5 w') (stable_cons (fun v w w' h he => h) (stable_cons (fun v w w' h he => h) (stable_cons (fun v w w' h he => h) stable_nil))) (stableC_ext _) (by kernel_rfl) (by kernel_rfl) (Keep.drew (Keep.refl _ _)) ?_
    iterate 2
      (try simp only [Act.put, List.setIfInBounds_toArray, List.set_cons_zero, List.set_cons_succ])
      refine grow_run rfl rfl rfl ?_
      apply Exists.intro
      refine ⟨fun w' hC hK => ?_, ?_⟩
      · have x6 := (hC.cell (lt_of_cell x6) id).trans x6
        have x7 := (hC.cell (lt_of_cell x7) id).trans x7
        have x8 := (hC.cell (lt_of_cell x8) id).trans x8
        have x9 := (hC.cell (lt_of_cell x9) id).trans x9
        have x10 := (hC.cell (lt_of_cell x10) id).trans x10
        go_simp
        rfl
    (try simp only [Act.put, List.setIfInBounds_toArray, List.set_cons_zero, List.set_cons_succ])
    refine grow_eff rfl rfl rfl (fun w' hC hK => ?_) (fun v2 hv2 => ?_)
    · unfold growAt
      go_simp
      refine grow_call ((HSN.out w' hC).mono ?_)
      rintro e w'' ⟨rfl, h2⟩
      rw [S15.out]
      exact ⟨_, rfl, h2, rfl⟩
    obtain ⟨_, _, rfl⟩ := hv2.head
    iterate 7
      (try simp only [Act.put, List.setIfInBounds_toArray, List.set_cons_zero, List.set_cons_succ])
      refine grow_run rfl rfl rfl ?_
      apply Exists.intro
      refine ⟨fun w' hC hK => ?_, ?_⟩
      · have x1 := (hC.cell (lt_of_cell x1) id).trans x1
        have x6 := (hC.cell (lt_of_cell x6) id).trans x6
        have x7 := (hC.cell (lt_of_cell x7) id).trans x7
        have x8 := (hC.cell (lt_of_cell x8) id).trans x8
        have x9 := (hC.cell (lt_of_cell x9) id).trans x9
        have x10 := (hC.cell (lt_of_cell x10) id).trans x10
        go_simp
        rfl
    (try simp only [Act.put, List.setIfInBounds_toArray, List.set_cons_zero, List.set_cons_succ])
    refine grow_eff rfl rfl rfl (fun w' hC hK => ?_) (fun v10 hv10 => ?_)
    · unfold growAt
      go_simp
      refine grow_call ((HDP.out w' hC).mono ?_)
      rintro e w'' ⟨rfl, h2⟩
      exact ⟨_, rfl, h2, rfl⟩
    obtain ⟨_, _, rfl⟩ := hv10.head
    iterate 6
      (try simp only [Act.put, List.setIfInBounds_toArray, List.set_cons_zero, List.set_cons_succ])
      refine grow_run rfl rfl rfl ?_
      apply Exists.intro
      refine ⟨fun w' hC hK => ?_, ?_⟩
      · have x6 := (hC.cell (lt_of_cell x6) id).trans x6
        have x7 := (hC.cell (lt_of_cell x7) id).trans x7
        have x8 := (hC.cell (lt_of_cell x8) id).trans x8
        have x9 := (hC.cell (lt_of_cell x9) id).trans x9
        have x10 := (hC.cell (lt_of_cell x10) id).trans x10
        go_simp
        rfl
    (try simp only [Act.put, List.setIfInBounds_toArray, List.set_cons_zero, List.set_cons_succ])
    refine grow_eff rfl rfl rfl (fun w' hC hK => ?_) (fun v17 hv17 => ?_)
    · unfold growAt
      go_simp
      refine grow_call ((HWT.out w' hC).mono ?_)
      rintro e w'' ⟨rfl, h2⟩
      rw [HWW.out]
      exact ⟨_, rfl, h2, rfl⟩
    obtain ⟨_, _, rfl⟩ := hv17.head
    iterate 3
      (try simp only [Act.put, List.setIfInBounds_toArray, List.set_cons_zero, List.set_cons_succ])
      refine grow_run rfl rfl rfl ?_
      apply Exists.intro
      refine ⟨fun w' hC hK => ?_, ?_⟩
      · go_simp
        rfl
    refine grow_nil fun wz hC hK => ?_
    have HC := hid (show Ext w5 wz from hC)
    clear hC hK
    go_wp2
    go_ret
    exact ⟨rfl, HE5.out.ext HC.out⟩
  · clear s3
    obtain rfl := s4.resolve_left (by decide)
    obtain rfl := s5.resolve_left (by decide)
    obtain rfl := s6.resolve_left (by decide)
    obtain rfl := s7.resolve_left (by decide)
    clear s8
    have x0 := HB.out.cell 0
    have x1 := HB.out.cell 1
    have x2 := HB.out.cell 2
    have x3 := HB.out.cell 3
    have x4 := HB.out.cell 4
    have x5 := HB.out.cell 5
    have x6 := HB.out.cell 6
    have x7 := HB.out.cell 7
    have x8 := HB.out.cell 8
    have x9 := HB.out.cell 9
    have x10 := HB.out.cell 10
    have x11 := HB.out.cell 11
    simp at x0 x1 x2 x3 x4 x5 x6 x7 x8 x9 x10 x11
    go_enter Tryd.func70, Tryd.ntmps70
    go_wp2_with fail
    refine (says_ok W 2 (by decide)).mono ?_
    rintro e _ ⟨rfl, rfl⟩
    rw [show textOf (saysN (2 : UInt8).toNat) = ⟨#[75, 86]⟩ from rfl]
    go_wp2_with fail
    refine (rsnd_ok W W HVA.out (Keep.refl _ _) _ _ _ HP.out S22.out).mono ?_
    rintro e w2 ⟨rfl, hE2⟩
    clear hW
    rw [show (decide (p.length ≤ 16) && !p.any badS) = true from by rw [S2.out.2]; simp; exact S2.out.1]
    have HB2 := hid (HB.out.keep hE2 id)
    have HE2 := hid (HE.out.ext hE2)
    have HX2 := hid hE2
    clear hE2 x0 x1 x2 x3 x4 x5 x6 x7 x8 x9 x10 x11
    have x0 := HB2.out.cell 0
    have x1 := HB2.out.cell 1
    have x2 := HB2.out.cell 2
    have x3 := HB2.out.cell 3
    have x4 := HB2.out.cell 4
    have x5 := HB2.out.cell 5
    have x6 := HB2.out.cell 6
    have x7 := HB2.out.cell 7
    have x8 := HB2.out.cell 8
    have x9 := HB2.out.cell 9
    have x10 := HB2.out.cell 10
    have x11 := HB2.out.cell 11
    simp at x0 x1 x2 x3 x4 x5 x6 x7 x8 x9 x10 x11
    go_wp2_with fail
    refine (in6_ok w2 ⟨#[75, 86]⟩ 75 (by decide)).mono ?_
    rintro e _ ⟨rfl, rfl⟩
    rw [show hasC ⟨#[75, 86]⟩ 75 = true from rfl]
    go_wp2_with fail
    refine (in6_ok w2 ⟨#[75, 86]⟩ 73 (by decide)).mono ?_
    rintro e _ ⟨rfl, rfl⟩
    rw [show hasC ⟨#[75, 86]⟩ 73 = false from rfl]
    go_wp2_with fail
    refine (in6_ok w2 ⟨#[75, 86]⟩ 74 (by decide)).mono ?_
    rintro e _ ⟨rfl, rfl⟩
    rw [show hasC ⟨#[75, 86]⟩ 74 = false from rfl]
    go_wp2_with fail
    refine (in6_ok w2 ⟨#[75, 86]⟩ 78 (by decide)).mono ?_
    rintro e _ ⟨rfl, rfl⟩
    rw [show hasC ⟨#[75, 86]⟩ 78 = false from rfl]
    go_wp2_with fail
    refine (in6_ok w2 ⟨#[75, 86]⟩ 83 (by decide)).mono ?_
    rintro e _ ⟨rfl, rfl⟩
    rw [show hasC ⟨#[75, 86]⟩ 83 = false from rfl]
    go_wp2_with fail
    refine (in6_ok w2 ⟨#[75, 86]⟩ 86 (by decide)).mono ?_
    rintro e _ ⟨rfl, rfl⟩
    rw [show hasC ⟨#[75, 86]⟩ 86 = true from rfl]
    go_wp2_with fail
    refine (HVA.out _ (by have := S20.out; omega) w2 HX2.out).mono ?_
    rintro e w3 ⟨rfl, hE3⟩
    rw [S9.out]
    have HB3 := hid (HB2.out.keep hE3 id)
    have HE3 := hid (HE2.out.ext hE3)
    have HX3 := hid (HX2.out.ext hE3)
    clear hE3 x0 x1 x2 x3 x4 x5 x6 x7 x8 x9 x10 x11
    have x0 := HB3.out.cell 0
    have x1 := HB3.out.cell 1
    have x2 := HB3.out.cell 2
    have x3 := HB3.out.cell 3
    have x4 := HB3.out.cell 4
    have x5 := HB3.out.cell 5
    have x6 := HB3.out.cell 6
    have x7 := HB3.out.cell 7
    have x8 := HB3.out.cell 8
    have x9 := HB3.out.cell 9
    have x10 := HB3.out.cell 10
    have x11 := HB3.out.cell 11
    simp at x0 x1 x2 x3 x4 x5 x6 x7 x8 x9 x10 x11
    go_wp2_with fail
    refine (HVA.out _ (by have := S21.out; omega) w3 HX3.out).mono ?_
    rintro e w4 ⟨rfl, hE4⟩
    rw [S10.out]
    have HB4 := hid (HB3.out.keep hE4 id)
    have HE4 := hid (HE3.out.ext hE4)
    have HX4 := hid (HX3.out.ext hE4)
    clear hE4 x0 x1 x2 x3 x4 x5 x6 x7 x8 x9 x10 x11
    have x0 := HB4.out.cell 0
    have x1 := HB4.out.cell 1
    have x2 := HB4.out.cell 2
    have x3 := HB4.out.cell 3
    have x4 := HB4.out.cell 4
    have x5 := HB4.out.cell 5
    have x6 := HB4.out.cell 6
    have x7 := HB4.out.cell 7
    have x8 := HB4.out.cell 8
    have x9 := HB4.out.cell 9
    have x10 := HB4.out.cell 10
    have x11 := HB4.out.cell 11
    simp at x0 x1 x2 x3 x4 x5 x6 x7 x8 x9 x10 x11
    go_wp2_with fail
    have h16 : (p.length : Int) + 1 + ((v : V).deep : Int) ≤ 16 := by have := S16.out; omega
    have h20 : ((v : V).weight : Int) ≤ 20000 := by have := S17.out; omega
    have hp16 : (p.length : Int) ≤ 16 := by have := S2.out.1; omega
    have hd16 : ((v : V).deep : Int) ≤ 16 := by omega
    have hww : wrap64 ((v : V).weight : Int) = ((v : V).weight : Int) := by unfold wrap64; omega
    have HWW := hid hww
    clear hww
    have HSN := hid (fun w' (he : Ext w4 w') => rsound_any w' (fun s hs w'' h => HVA.out s hs w'' ((HX4.out.ext he).ext h)) _ v (Nat.le_refl _) S18.out _ _ w' (Keep.refl _ _) (HV.out.ext (HX4.out.ext he)))
    have HDP := hid (fun w' (he : Ext w4 w') => rdeep_any _ v (Nat.le_refl _) S19.out _ _ w' (HV.out.ext (HX4.out.ext he)))
    have HWT := hid (fun w' (he : Ext w4 w') => rweight_any _ v (Nat.le_refl _) _ _ w' (HV.out.ext (HX4.out.ext he)))
    generalize hdp : (v : V).deep = dp at *
    generalize hwt : (v : V).weight = wt at *
    clear hdp hwt
    have hw1 : IntKind.i64.wrap ((p.length : Int) + 1) = (p.length : Int) + 1 := by rw [IntKind.wrap_i64]; omega
    have hw2 : IntKind.i64.wrap ((p.length : Int) + 1 + (dp : Int)) = (p.length : Int) + 1 + (dp : Int) := by rw [IntKind.wrap_i64]; omega
    refine wp_region_grow (specOf [(2, fun u w' => u = .bool true), (10, fun u w' => u = .int .i64 (dp : Int)), (17, fun u w' => u = .int .i64 (wt : Int))]) (fun w' => Ext w4 w') (stable_cons (fun v w w' h he => h) (stable_cons (fun v w w' h he => h) (stable_cons (fun v w w' h he => h) stable_nil))) (stableC_ext _) (by kernel_rfl) (by kernel_rfl) (Keep.drew (Keep.refl _ _)) ?_
    iterate 2
      (try simp only [Act.put, List.setIfInBounds_toArray, List.set_cons_zero, List.set_cons_succ])
      refine grow_run rfl rfl rfl ?_
      apply Exists.intro
      refine ⟨fun w' hC hK => ?_, ?_⟩
      · have x6 := (hC.cell (lt_of_cell x6) id).trans x6
        have x7 := (hC.cell (lt_of_cell x7) id).trans x7
        have x8 := (hC.cell (lt_of_cell x8) id).trans x8
        have x9 := (hC.cell (lt_of_cell x9) id).trans x9
        have x10 := (hC.cell (lt_of_cell x10) id).trans x10
        go_simp
        rfl
    (try simp only [Act.put, List.setIfInBounds_toArray, List.set_cons_zero, List.set_cons_succ])
    refine grow_eff rfl rfl rfl (fun w' hC hK => ?_) (fun v2 hv2 => ?_)
    · unfold growAt
      go_simp
      refine grow_call ((HSN.out w' hC).mono ?_)
      rintro e w'' ⟨rfl, h2⟩
      rw [S15.out]
      exact ⟨_, rfl, h2, rfl⟩
    obtain ⟨_, _, rfl⟩ := hv2.head
    iterate 7
      (try simp only [Act.put, List.setIfInBounds_toArray, List.set_cons_zero, List.set_cons_succ])
      refine grow_run rfl rfl rfl ?_
      apply Exists.intro
      refine ⟨fun w' hC hK => ?_, ?_⟩
      · have x1 := (hC.cell (lt_of_cell x1) id).trans x1
        have x6 := (hC.cell (lt_of_cell x6) id).trans x6
        have x7 := (hC.cell (lt_of_cell x7) id).trans x7
        have x8 := (hC.cell (lt_of_cell x8) id).trans x8
        have x9 := (hC.cell (lt_of_cell x9) id).trans x9
        have x10 := (hC.cell (lt_of_cell x10) id).trans x10
        go_simp
        rfl
    (try simp only [Act.put, List.setIfInBounds_toArray, List.set_cons_zero, List.set_cons_succ])
    refine grow_eff rfl rfl rfl (fun w' hC hK => ?_) (fun v10 hv10 => ?_)
    · unfold growAt
      go_simp
      refine grow_call ((HDP.out w' hC).mono ?_)
      rintro e w'' ⟨rfl, h2⟩
      exact ⟨_, rfl, h2, rfl⟩
    obtain ⟨_, _, rfl⟩ := hv10.head
    iterate 6
      (try simp only [Act.put, List.setIfInBounds_toArray, List.set_cons_zero, List.set_cons_succ])
      refine grow_run rfl rfl rfl ?_
      apply Exists.intro
      refine ⟨fun w' hC hK => ?_, ?_⟩
      · have x6 := (hC.cell (lt_of_cell x6) id).trans x6
        have x7 := (hC.cell (lt_of_cell x7) id).trans x7
        have x8 := (hC.cell (lt_of_cell x8) id).trans x8
        have x9 := (hC.cell (lt_of_cell x9) id).trans x9
        have x10 := (hC.cell (lt_of_cell x10) id).trans x10
        go_simp
        rfl
    (try simp only [Act.put, List.setIfInBounds_toArray, List.set_cons_zero, List.set_cons_succ])
    refine grow_eff rfl rfl rfl (fun w' hC hK => ?_) (fun v17 hv17 => ?_)
    · unfold growAt
      go_simp
      refine grow_call ((HWT.out w' hC).mono ?_)
      rintro e w'' ⟨rfl, h2⟩
      rw [HWW.out]
      exact ⟨_, rfl, h2, rfl⟩
    obtain ⟨_, _, rfl⟩ := hv17.head
    iterate 3
      (try simp only [Act.put, List.setIfInBounds_toArray, List.set_cons_zero, List.set_cons_succ])
      refine grow_run rfl rfl rfl ?_
      apply Exists.intro
      refine ⟨fun w' hC hK => ?_, ?_⟩
      · go_simp
        rfl
    refine grow_nil fun wz hC hK => ?_
    have HC := hid (show Ext w4 wz from hC)
    clear hC hK
    go_wp2
    go_ret
    exact ⟨rfl, HE4.out.ext HC.out⟩
  · clear s3
    obtain rfl := s4.resolve_left (by decide)
    obtain rfl := s5.resolve_left (by decide)
    obtain rfl := s6.resolve_left (by decide)
    obtain rfl := s7.resolve_left (by decide)
    obtain rfl := s8.resolve_left (by decide)
    have x0 := HB.out.cell 0
    have x1 := HB.out.cell 1
    have x2 := HB.out.cell 2
    have x3 := HB.out.cell 3
    have x4 := HB.out.cell 4
    have x5 := HB.out.cell 5
    have x6 := HB.out.cell 6
    have x7 := HB.out.cell 7
    have x8 := HB.out.cell 8
    have x9 := HB.out.cell 9
    have x10 := HB.out.cell 10
    have x11 := HB.out.cell 11
    simp at x0 x1 x2 x3 x4 x5 x6 x7 x8 x9 x10 x11
    go_enter Tryd.func70, Tryd.ntmps70
    go_wp2_with fail
    refine (says_ok W 3 (by decide)).mono ?_
    rintro e _ ⟨rfl, rfl⟩
    rw [show textOf (saysN (3 : UInt8).toNat) = ⟨#[75]⟩ from rfl]
    go_wp2_with fail
    refine (rsnd_ok W W HVA.out (Keep.refl _ _) _ _ _ HP.out S22.out).mono ?_
    rintro e w2 ⟨rfl, hE2⟩
    clear hW
    rw [show (decide (p.length ≤ 16) && !p.any badS) = true from by rw [S2.out.2]; simp; exact S2.out.1]
    have HB2 := hid (HB.out.keep hE2 id)
    have HE2 := hid (HE.out.ext hE2)
    have HX2 := hid hE2
    clear hE2 x0 x1 x2 x3 x4 x5 x6 x7 x8 x9 x10 x11
    have x0 := HB2.out.cell 0
    have x1 := HB2.out.cell 1
    have x2 := HB2.out.cell 2
    have x3 := HB2.out.cell 3
    have x4 := HB2.out.cell 4
    have x5 := HB2.out.cell 5
    have x6 := HB2.out.cell 6
    have x7 := HB2.out.cell 7
    have x8 := HB2.out.cell 8
    have x9 := HB2.out.cell 9
    have x10 := HB2.out.cell 10
    have x11 := HB2.out.cell 11
    simp at x0 x1 x2 x3 x4 x5 x6 x7 x8 x9 x10 x11
    go_wp2_with fail
    refine (in6_ok w2 ⟨#[75]⟩ 75 (by decide)).mono ?_
    rintro e _ ⟨rfl, rfl⟩
    rw [show hasC ⟨#[75]⟩ 75 = true from rfl]
    go_wp2_with fail
    refine (in6_ok w2 ⟨#[75]⟩ 73 (by decide)).mono ?_
    rintro e _ ⟨rfl, rfl⟩
    rw [show hasC ⟨#[75]⟩ 73 = false from rfl]
    go_wp2_with fail
    refine (in6_ok w2 ⟨#[75]⟩ 74 (by decide)).mono ?_
    rintro e _ ⟨rfl, rfl⟩
    rw [show hasC ⟨#[75]⟩ 74 = false from rfl]
    go_wp2_with fail
    refine (in6_ok w2 ⟨#[75]⟩ 78 (by decide)).mono ?_
    rintro e _ ⟨rfl, rfl⟩
    rw [show hasC ⟨#[75]⟩ 78 = false from rfl]
    go_wp2_with fail
    refine (in6_ok w2 ⟨#[75]⟩ 83 (by decide)).mono ?_
    rintro e _ ⟨rfl, rfl⟩
    rw [show hasC ⟨#[75]⟩ 83 = false from rfl]
    go_wp2_with fail
    refine (in6_ok w2 ⟨#[75]⟩ 86 (by decide)).mono ?_
    rintro e _ ⟨rfl, rfl⟩
    rw [show hasC ⟨#[75]⟩ 86 = false from rfl]
    go_wp2_with fail
    refine (same_eq _ (.mk 0 0 ⟨#[]⟩ [] []) (Nat.le_refl _) _ _ _ _ w2 (HV.out.ext HX2.out) ⟨_, _, rfl, Sl.nil _ (fun _ => True), Sl.nil _ _⟩).mono ?_
    rintro e w3 ⟨rfl, hE3⟩
    have HB3 := hid (HB2.out.keep hE3 id)
    have HE3 := hid (HE2.out.ext hE3)
    have HX3 := hid (HX2.out.ext hE3)
    clear hE3 x0 x1 x2 x3 x4 x5 x6 x7 x8 x9 x10 x11
    have x0 := HB3.out.cell 0
    have x1 := HB3.out.cell 1
    have x2 := HB3.out.cell 2
    have x3 := HB3.out.cell 3
    have x4 := HB3.out.cell 4
    have x5 := HB3.out.cell 5
    have x6 := HB3.out.cell 6
    have x7 := HB3.out.cell 7
    have x8 := HB3.out.cell 8
    have x9 := HB3.out.cell 9
    have x10 := HB3.out.cell 10
    have x11 := HB3.out.cell 11
    simp at x0 x1 x2 x3 x4 x5 x6 x7 x8 x9 x10 x11
    go_wp2_with fail
    refine (HVA.out _ (by have := S20.out; omega) w3 HX3.out).mono ?_
    rintro e w4 ⟨rfl, hE4⟩
    rw [S9.out]
    have HB4 := hid (HB3.out.keep hE4 id)
    have HE4 := hid (HE3.out.ext hE4)
    have HX4 := hid (HX3.out.ext hE4)
    clear hE4 x0 x1 x2 x3 x4 x5 x6 x7 x8 x9 x10 x11
    have x0 := HB4.out.cell 0
    have x1 := HB4.out.cell 1
    have x2 := HB4.out.cell 2
    have x3 := HB4.out.cell 3
    have x4 := HB4.out.cell 4
    have x5 := HB4.out.cell 5
    have x6 := HB4.out.cell 6
    have x7 := HB4.out.cell 7
    have x8 := HB4.out.cell 8
    have x9 := HB4.out.cell 9
    have x10 := HB4.out.cell 10
    have x11 := HB4.out.cell 11
    simp at x0 x1 x2 x3 x4 x5 x6 x7 x8 x9 x10 x11
    go_wp2_with fail
    refine (HVA.out _ (by have := S21.out; omega) w4 HX4.out).mono ?_
    rintro e w5 ⟨rfl, hE5⟩
    rw [S10.out]
    have HB5 := hid (HB4.out.keep hE5 id)
    have HE5 := hid (HE4.out.ext hE5)
    have HX5 := hid (HX4.out.ext hE5)
    clear hE5 x0 x1 x2 x3 x4 x5 x6 x7 x8 x9 x10 x11
    have x0 := HB5.out.cell 0
    have x1 := HB5.out.cell 1
    have x2 := HB5.out.cell 2
    have x3 := HB5.out.cell 3
    have x4 := HB5.out.cell 4
    have x5 := HB5.out.cell 5
    have x6 := HB5.out.cell 6
    have x7 := HB5.out.cell 7
    have x8 := HB5.out.cell 8
    have x9 := HB5.out.cell 9
    have x10 := HB5.out.cell 10
    have x11 := HB5.out.cell 11
    simp at x0 x1 x2 x3 x4 x5 x6 x7 x8 x9 x10 x11
    go_wp2_with fail
    have h16 : (p.length : Int) + 1 + (((.mk 0 0 ⟨#[]⟩ [] []) : V).deep : Int) ≤ 16 := by have := S16.out; omega
    have h20 : (((.mk 0 0 ⟨#[]⟩ [] []) : V).weight : Int) ≤ 20000 := by have := S17.out; omega
    have hp16 : (p.length : Int) ≤ 16 := by have := S2.out.1; omega
    have hd16 : (((.mk 0 0 ⟨#[]⟩ [] []) : V).deep : Int) ≤ 16 := by omega
    have hww : wrap64 (((.mk 0 0 ⟨#[]⟩ [] []) : V).weight : Int) = (((.mk 0 0 ⟨#[]⟩ [] []) : V).weight : Int) := by unfold wrap64; omega
    have HWW := hid hww
    clear hww
    have HSN := hid (fun w' (he : Ext w5 w') => rsound_any w' (fun s hs w'' h => HVA.out s hs w'' ((HX5.out.ext he).ext h)) _ (.mk 0 0 ⟨#[]⟩ [] []) (Nat.le_refl _) S18.out _ _ w' (Keep.refl _ _) (HV.out.ext (HX5.out.ext he)))
    have HDP := hid (fun w' (he : Ext w5 w') => rdeep_any _ (.mk 0 0 ⟨#[]⟩ [] []) (Nat.le_refl _) S19.out _ _ w' (HV.out.ext (HX5.out.ext he)))
    have HWT := hid (fun w' (he : Ext w5 w') => rweight_any _ (.mk 0 0 ⟨#[]⟩ [] []) (Nat.le_refl _) _ _ w' (HV.out.ext (HX5.out.ext he)))
    generalize hdp : ((.mk 0 0 ⟨#[]⟩ [] []) : V).deep = dp at *
    generalize hwt : ((.mk 0 0 ⟨#[]⟩ [] []) : V).weight = wt at *
    clear hdp hwt
    have hw1 : IntKind.i64.wrap ((p.length : Int) + 1) = (p.length : Int) + 1 := by rw [IntKind.wrap_i64]; omega
    have hw2 : IntKind.i64.wrap ((p.length : Int) + 1 + (dp : Int)) = (p.length : Int) + 1 + (dp : Int) := by rw [IntKind.wrap_i64]; omega
    refine wp_region_grow (specOf [(2, fun u w' => u = .bool true), (10, fun u w' => u = .int .i64 (dp : Int)), (17, fun u w' => u = .int .i64 (wt : Int))]) (fun w' => Ext w5 w') (stable_cons (fun v w w' h he => h) (stable_cons (fun v w w' h he => h) (stable_cons (fun v w w' h he => h) stable_nil))) (stableC_ext _) (by kernel_rfl) (by kernel_rfl) (Keep.drew (Keep.refl _ _)) ?_
    iterate 2
      (try simp only [Act.put, List.setIfInBounds_toArray, List.set_cons_zero, List.set_cons_succ])
      refine grow_run rfl rfl rfl ?_
      apply Exists.intro
      refine ⟨fun w' hC hK => ?_, ?_⟩
      · have x6 := (hC.cell (lt_of_cell x6) id).trans x6
        have x7 := (hC.cell (lt_of_cell x7) id).trans x7
        have x8 := (hC.cell (lt_of_cell x8) id).trans x8
        have x9 := (hC.cell (lt_of_cell x9) id).trans x9
        have x10 := (hC.cell (lt_of_cell x10) id).trans x10
        go_simp
        rfl
    (try simp only [Act.put, List.setIfInBounds_toArray, List.set_cons_zero, List.set_cons_succ])
    refine grow_eff rfl rfl rfl (fun w' hC hK => ?_) (fun v2 hv2 => ?_)
    · unfold growAt
      go_simp
      refine grow_call ((HSN.out w' hC).mono ?_)
      rintro e w'' ⟨rfl, h2⟩
      rw [S15.out]
      exact ⟨_, rfl, h2, rfl⟩
    obtain ⟨_, _, rfl⟩ := hv2.head
    iterate 7
      (try simp only [Act.put, List.setIfInBounds_toArray, List.set_cons_zero, List.set_cons_succ])
      refine grow_run rfl rfl rfl ?_
      apply Exists.intro
      refine ⟨fun w' hC hK => ?_, ?_⟩
      · have x1 := (hC.cell (lt_of_cell x1) id).trans x1
        have x6 := (hC.cell (lt_of_cell x6) id).trans x6
        have x7 := (hC.cell (lt_of_cell x7) id).trans x7
        have x8 := (hC.cell (lt_of_cell x8) id).trans x8
        have x9 := (hC.cell (lt_of_cell x9) id).trans x9
        have x10 := (hC.cell (lt_of_cell x10) id).trans x10
        go_simp
        rfl
    (try simp only [Act.put, List.setIfInBounds_toArray, List.set_cons_zero, List.set_cons_succ])
    refine grow_eff rfl rfl rfl (fun w' hC hK => ?_) (fun v10 hv10 => ?_)
    · unfold growAt
      go_simp
      refine grow_call ((HDP.out w' hC).mono ?_)
      rintro e w'' ⟨rfl, h2⟩
      exact ⟨_, rfl, h2, rfl⟩
    obtain ⟨_, _, rfl⟩ := hv10.head
    iterate 6
      (try simp only [Act.put, List.setIfInBounds_toArray, List.set_cons_zero, List.set_cons_succ])
      refine grow_run rfl rfl rfl ?_
      apply Exists.intro
      refine ⟨fun w' hC hK => ?_, ?_⟩
      · have x6 := (hC.cell (lt_of_cell x6) id).trans x6
        have x7 := (hC.cell (lt_of_cell x7) id).trans x7
        have x8 := (hC.cell (lt_of_cell x8) id).trans x8
        have x9 := (hC.cell (lt_of_cell x9) id).trans x9
        have x10 := (hC.cell (lt_of_cell x10) id).trans x10
        go_simp
        rfl
    (try simp only [Act.put, List.setIfInBounds_toArray, List.set_cons_zero, List.set_cons_succ])
    refine grow_eff rfl rfl rfl (fun w' hC hK => ?_) (fun v17 hv17 => ?_)
    · unfold growAt
      go_simp
      refine grow_call ((HWT.out w' hC).mono ?_)
      rintro e w'' ⟨rfl, h2⟩
      rw [HWW.out]
      exact ⟨_, rfl, h2, rfl⟩
    obtain ⟨_, _, rfl⟩ := hv17.head
    iterate 3
      (try simp only [Act.put, List.setIfInBounds_toArray, List.set_cons_zero, List.set_cons_succ])
      refine grow_run rfl rfl rfl ?_
      apply Exists.intro
      refine ⟨fun w' hC hK => ?_, ?_⟩
      · go_simp
        rfl
    refine grow_nil fun wz hC hK => ?_
    have HC := hid (show Ext w5 wz from hC)
    clear hC hK
    go_wp2
    go_ret
    exact ⟨rfl, HE5.out.ext HC.out⟩
  · obtain rfl := s3.resolve_left (by decide)
    clear s4
    obtain rfl := s5.resolve_left (by decide)
    obtain rfl := s6.resolve_left (by decide)
    obtain rfl := s7.resolve_left (by decide)
    clear s8
    have x0 := HB.out.cell 0
    have x1 := HB.out.cell 1
    have x2 := HB.out.cell 2
    have x3 := HB.out.cell 3
    have x4 := HB.out.cell 4
    have x5 := HB.out.cell 5
    have x6 := HB.out.cell 6
    have x7 := HB.out.cell 7
    have x8 := HB.out.cell 8
    have x9 := HB.out.cell 9
    have x10 := HB.out.cell 10
    have x11 := HB.out.cell 11
    simp at x0 x1 x2 x3 x4 x5 x6 x7 x8 x9 x10 x11
    go_enter Tryd.func70, Tryd.ntmps70
    go_wp2_with fail
    refine (says_ok W 4 (by decide)).mono ?_
    rintro e _ ⟨rfl, rfl⟩
    rw [show textOf (saysN (4 : UInt8).toNat) = ⟨#[73, 86]⟩ from rfl]
    go_wp2_with fail
    refine (rsnd_ok W W HVA.out (Keep.refl _ _) _ _ _ HP.out S22.out).mono ?_
    rintro e w2 ⟨rfl, hE2⟩
    clear hW
    rw [show (decide (p.length ≤ 16) && !p.any badS) = true from by rw [S2.out.2]; simp; exact S2.out.1]
    have HB2 := hid (HB.out.keep hE2 id)
    have HE2 := hid (HE.out.ext hE2)
    have HX2 := hid hE2
    clear hE2 x0 x1 x2 x3 x4 x5 x6 x7 x8 x9 x10 x11
    have x0 := HB2.out.cell 0
    have x1 := HB2.out.cell 1
    have x2 := HB2.out.cell 2
    have x3 := HB2.out.cell 3
    have x4 := HB2.out.cell 4
    have x5 := HB2.out.cell 5
    have x6 := HB2.out.cell 6
    have x7 := HB2.out.cell 7
    have x8 := HB2.out.cell 8
    have x9 := HB2.out.cell 9
    have x10 := HB2.out.cell 10
    have x11 := HB2.out.cell 11
    simp at x0 x1 x2 x3 x4 x5 x6 x7 x8 x9 x10 x11
    go_wp2_with fail
    refine (in6_ok w2 ⟨#[73, 86]⟩ 75 (by decide)).mono ?_
    rintro e _ ⟨rfl, rfl⟩
    rw [show hasC ⟨#[73, 86]⟩ 75 = false from rfl]
    go_wp2_with fail
    refine (in6_ok w2 ⟨#[73, 86]⟩ 73 (by decide)).mono ?_
    rintro e _ ⟨rfl, rfl⟩
    rw [show hasC ⟨#[73, 86]⟩ 73 = true from rfl]
    go_wp2_with fail
    refine (in6_ok w2 ⟨#[73, 86]⟩ 74 (by decide)).mono ?_
    rintro e _ ⟨rfl, rfl⟩
    rw [show hasC ⟨#[73, 86]⟩ 74 = false from rfl]
    go_wp2_with fail
    refine (in6_ok w2 ⟨#[73, 86]⟩ 78 (by decide)).mono ?_
    rintro e _ ⟨rfl, rfl⟩
    rw [show hasC ⟨#[73, 86]⟩ 78 = false from rfl]
    go_wp2_with fail
    refine (in6_ok w2 ⟨#[73, 86]⟩ 83 (by decide)).mono ?_
    rintro e _ ⟨rfl, rfl⟩
    rw [show hasC ⟨#[73, 86]⟩ 83 = false from rfl]
    go_wp2_with fail
    refine (in6_ok w2 ⟨#[73, 86]⟩ 86 (by decide)).mono ?_
    rintro e _ ⟨rfl, rfl⟩
    rw [show hasC ⟨#[73, 86]⟩ 86 = true from rfl]
    go_wp2_with fail
    refine (HVA.out _ (by have := S20.out; omega) w2 HX2.out).mono ?_
    rintro e w3 ⟨rfl, hE3⟩
    rw [S9.out]
    have HB3 := hid (HB2.out.keep hE3 id)
    have HE3 := hid (HE2.out.ext hE3)
    have HX3 := hid (HX2.out.ext hE3)
    clear hE3 x0 x1 x2 x3 x4 x5 x6 x7 x8 x9 x10 x11
    have x0 := HB3.out.cell 0
    have x1 := HB3.out.cell 1
    have x2 := HB3.out.cell 2
    have x3 := HB3.out.cell 3
    have x4 := HB3.out.cell 4
    have x5 := HB3.out.cell 5
    have x6 := HB3.out.cell 6
    have x7 := HB3.out.cell 7
    have x8 := HB3.out.cell 8
    have x9 := HB3.out.cell 9
    have x10 := HB3.out.cell 10
    have x11 := HB3.out.cell 11
    simp at x0 x1 x2 x3 x4 x5 x6 x7 x8 x9 x10 x11
    go_wp2_with fail
    refine (HVA.out _ (by have := S21.out; omega) w3 HX3.out).mono ?_
    rintro e w4 ⟨rfl, hE4⟩
    rw [S10.out]
    have HB4 := hid (HB3.out.keep hE4 id)
    have HE4 := hid (HE3.out.ext hE4)
    have HX4 := hid (HX3.out.ext hE4)
    clear hE4 x0 x1 x2 x3 x4 x5 x6 x7 x8 x9 x10 x11
    have x0 := HB4.out.cell 0
    have x1 := HB4.out.cell 1
    have x2 := HB4.out.cell 2
    have x3 := HB4.out.cell 3
    have x4 := HB4.out.cell 4
    have x5 := HB4.out.cell 5
    have x6 := HB4.out.cell 6
    have x7 := HB4.out.cell 7
    have x8 := HB4.out.cell 8
    have x9 := HB4.out.cell 9
    have x10 := HB4.out.cell 10
    have x11 := HB4.out.cell 11
    simp at x0 x1 x2 x3 x4 x5 x6 x7 x8 x9 x10 x11
    have hi0 : ¬ i < 0 := by have := S11.out; omega
    go_wp2_with fail
    have h16 : (p.length : Int) + 1 + ((v : V).deep : Int) ≤ 16 := by have := S16.out; omega
    have h20 : ((v : V).weight : Int) ≤ 20000 := by have := S17.out; omega
    have hp16 : (p.length : Int) ≤ 16 := by have := S2.out.1; omega
    have hd16 : ((v : V).deep : Int) ≤ 16 := by omega
    have hww : wrap64 ((v : V).weight : Int) = ((v : V).weight : Int) := by unfold wrap64; omega
    have HWW := hid hww
    clear hww
    have HSN := hid (fun w' (he : Ext w4 w') => rsound_any w' (fun s hs w'' h => HVA.out s hs w'' ((HX4.out.ext he).ext h)) _ v (Nat.le_refl _) S18.out _ _ w' (Keep.refl _ _) (HV.out.ext (HX4.out.ext he)))
    have HDP := hid (fun w' (he : Ext w4 w') => rdeep_any _ v (Nat.le_refl _) S19.out _ _ w' (HV.out.ext (HX4.out.ext he)))
    have HWT := hid (fun w' (he : Ext w4 w') => rweight_any _ v (Nat.le_refl _) _ _ w' (HV.out.ext (HX4.out.ext he)))
    generalize hdp : (v : V).deep = dp at *
    generalize hwt : (v : V).weight = wt at *
    clear hdp hwt
    have hw1 : IntKind.i64.wrap ((p.length : Int) + 1) = (p.length : Int) + 1 := by rw [IntKind.wrap_i64]; omega
    have hw2 : IntKind.i64.wrap ((p.length : Int) + 1 + (dp : Int)) = (p.length : Int) + 1 + (dp : Int) := by rw [IntKind.wrap_i64]; omega
    refine wp_region_grow (specOf [(2, fun u w' => u = .bool true), (10, fun u w' => u = .int .i64 (dp : Int)), (17, fun u w' => u = .int .i64 (wt : Int))]) (fun w' => Ext w4 w') (stable_cons (fun v w w' h he => h) (stable_cons (fun v w w' h he => h) (stable_cons (fun v w w' h he => h) stable_nil))) (stableC_ext _) (by kernel_rfl) (by kernel_rfl) (Keep.drew (Keep.refl _ _)) ?_
    iterate 2
      (try simp only [Act.put, List.setIfInBounds_toArray, List.set_cons_zero, List.set_cons_succ])
      refine grow_run rfl rfl rfl ?_
      apply Exists.intro
      refine ⟨fun w' hC hK => ?_, ?_⟩
      · have x6 := (hC.cell (lt_of_cell x6) id).trans x6
        have x7 := (hC.cell (lt_of_cell x7) id).trans x7
        have x8 := (hC.cell (lt_of_cell x8) id).trans x8
        have x9 := (hC.cell (lt_of_cell x9) id).trans x9
        have x10 := (hC.cell (lt_of_cell x10) id).trans x10
        go_simp
        rfl
    (try simp only [Act.put, List.setIfInBounds_toArray, List.set_cons_zero, List.set_cons_succ])
    refine grow_eff rfl rfl rfl (fun w' hC hK => ?_) (fun v2 hv2 => ?_)
    · unfold growAt
      go_simp
      refine grow_call ((HSN.out w' hC).mono ?_)
      rintro e w'' ⟨rfl, h2⟩
      rw [S15.out]
      exact ⟨_, rfl, h2, rfl⟩
    obtain ⟨_, _, rfl⟩ := hv2.head
    iterate 7
      (try simp only [Act.put, List.setIfInBounds_toArray, List.set_cons_zero, List.set_cons_succ])
      refine grow_run rfl rfl rfl ?_
      apply Exists.intro
      refine ⟨fun w' hC hK => ?_, ?_⟩
      · have x1 := (hC.cell (lt_of_cell x1) id).trans x1
        have x6 := (hC.cell (lt_of_cell x6) id).trans x6
        have x7 := (hC.cell (lt_of_cell x7) id).trans x7
        have x8 := (hC.cell (lt_of_cell x8) id).trans x8
        have x9 := (hC.cell (lt_of_cell x9) id).trans x9
        have x10 := (hC.cell (lt_of_cell x10) id).trans x10
        go_simp
        rfl
    (try simp only [Act.put, List.setIfInBounds_toArray, List.set_cons_zero, List.set_cons_succ])
    refine grow_eff rfl rfl rfl (fun w' hC hK => ?_) (fun v10 hv10 => ?_)
    · unfold growAt
      go_simp
      refine grow_call ((HDP.out w' hC).mono ?_)
      rintro e w'' ⟨rfl, h2⟩
      exact ⟨_, rfl, h2, rfl⟩
    obtain ⟨_, _, rfl⟩ := hv10.head
    iterate 6
      (try simp only [Act.put, List.setIfInBounds_toArray, List.set_cons_zero, List.set_cons_succ])
      refine grow_run rfl rfl rfl ?_
      apply Exists.intro
      refine ⟨fun w' hC hK => ?_, ?_⟩
      · have x6 := (hC.cell (lt_of_cell x6) id).trans x6
        have x7 := (hC.cell (lt_of_cell x7) id).trans x7
        have x8 := (hC.cell (lt_of_cell x8) id).trans x8
        have x9 := (hC.cell (lt_of_cell x9) id).trans x9
        have x10 := (hC.cell (lt_of_cell x10) id).trans x10
        go_simp
        rfl
    (try simp only [Act.put, List.setIfInBounds_toArray, List.set_cons_zero, List.set_cons_succ])
    refine grow_eff rfl rfl rfl (fun w' hC hK => ?_) (fun v17 hv17 => ?_)
    · unfold growAt
      go_simp
      refine grow_call ((HWT.out w' hC).mono ?_)
      rintro e w'' ⟨rfl, h2⟩
      rw [HWW.out]
      exact ⟨_, rfl, h2, rfl⟩
    obtain ⟨_, _, rfl⟩ := hv17.head
    iterate 3
      (try simp only [Act.put, List.setIfInBounds_toArray, List.set_cons_zero, List.set_cons_succ])
      refine grow_run rfl rfl rfl ?_
      apply Exists.intro
      refine ⟨fun w' hC hK => ?_, ?_⟩
      · go_simp
        rfl
    refine grow_nil fun wz hC hK => ?_
    have HC := hid (show Ext w4 wz from hC)
    clear hC hK
    go_wp2
    go_ret
    exact ⟨rfl, HE4.out.ext HC.out⟩
  · obtain rfl := s3.resolve_left (by decide)
    clear s4
    obtain rfl := s5.resolve_left (by decide)
    obtain rfl := s6.resolve_left (by decide)
    obtain rfl := s7.resolve_left (by decide)
    obtain rfl := s8.resolve_left (by decide)
    have x0 := HB.out.cell 0
    have x1 := HB.out.cell 1
    have x2 := HB.out.cell 2
    have x3 := HB.out.cell 3
    have x4 := HB.out.cell 4
    have x5 := HB.out.cell 5
    have x6 := HB.out.cell 6
    have x7 := HB.out.cell 7
    have x8 := HB.out.cell 8
    have x9 := HB.out.cell 9
    have x10 := HB.out.cell 10
    have x11 := HB.out.cell 11
    simp at x0 x1 x2 x3 x4 x5 x6 x7 x8 x9 x10 x11
    go_enter Tryd.func70, Tryd.ntmps70
    go_wp2_with fail
    refine (says_ok W 5 (by decide)).mono ?_
    rintro e _ ⟨rfl, rfl⟩
    rw [show textOf (saysN (5 : UInt8).toNat) = ⟨#[73]⟩ from rfl]
    go_wp2_with fail
    refine (rsnd_ok W W HVA.out (Keep.refl _ _) _ _ _ HP.out S22.out).mono ?_
    rintro e w2 ⟨rfl, hE2⟩
    clear hW
    rw [show (decide (p.length ≤ 16) && !p.any badS) = true from by rw [S2.out.2]; simp; exact S2.out.1]
    have HB2 := hid (HB.out.keep hE2 id)
    have HE2 := hid (HE.out.ext hE2)
    have HX2 := hid hE2
    clear hE2 x0 x1 x2 x3 x4 x5 x6 x7 x8 x9 x10 x11
    have x0 := HB2.out.cell 0
    have x1 := HB2.out.cell 1
    have x2 := HB2.out.cell 2
    have x3 := HB2.out.cell 3
    have x4 := HB2.out.cell 4
    have x5 := HB2.out.cell 5
    have x6 := HB2.out.cell 6
    have x7 := HB2.out.cell 7
    have x8 := HB2.out.cell 8
    have x9 := HB2.out.cell 9
    have x10 := HB2.out.cell 10
    have x11 := HB2.out.cell 11
    simp at x0 x1 x2 x3 x4 x5 x6 x7 x8 x9 x10 x11
    go_wp2_with fail
    refine (in6_ok w2 ⟨#[73]⟩ 75 (by decide)).mono ?_
    rintro e _ ⟨rfl, rfl⟩
    rw [show hasC ⟨#[73]⟩ 75 = false from rfl]
    go_wp2_with fail
    refine (in6_ok w2 ⟨#[73]⟩ 73 (by decide)).mono ?_
    rintro e _ ⟨rfl, rfl⟩
    rw [show hasC ⟨#[73]⟩ 73 = true from rfl]
    go_wp2_with fail
    refine (in6_ok w2 ⟨#[73]⟩ 74 (by decide)).mono ?_
    rintro e _ ⟨rfl, rfl⟩
    rw [show hasC ⟨#[73]⟩ 74 = false from rfl]
    go_wp2_with fail
    refine (in6_ok w2 ⟨#[73]⟩ 78 (by decide)).mono ?_
    rintro e _ ⟨rfl, rfl⟩
    rw [show hasC ⟨#[73]⟩ 78 = false from rfl]
    go_wp2_with fail
    refine (in6_ok w2 ⟨#[73]⟩ 83 (by decide)).mono ?_
    rintro e _ ⟨rfl, rfl⟩
    rw [show hasC ⟨#[73]⟩ 83 = false from rfl]
    go_wp2_with fail
    refine (in6_ok w2 ⟨#[73]⟩ 86 (by decide)).mono ?_
    rintro e _ ⟨rfl, rfl⟩
    rw [show hasC ⟨#[73]⟩ 86 = false from rfl]
    go_wp2_with fail
    refine (same_eq _ (.mk 0 0 ⟨#[]⟩ [] []) (Nat.le_refl _) _ _ _ _ w2 (HV.out.ext HX2.out) ⟨_, _, rfl, Sl.nil _ (fun _ => True), Sl.nil _ _⟩).mono ?_
    rintro e w3 ⟨rfl, hE3⟩
    have HB3 := hid (HB2.out.keep hE3 id)
    have HE3 := hid (HE2.out.ext hE3)
    have HX3 := hid (HX2.out.ext hE3)
    clear hE3 x0 x1 x2 x3 x4 x5 x6 x7 x8 x9 x10 x11
    have x0 := HB3.out.cell 0
    have x1 := HB3.out.cell 1
    have x2 := HB3.out.cell 2
    have x3 := HB3.out.cell 3
    have x4 := HB3.out.cell 4
    have x5 := HB3.out.cell 5
    have x6 := HB3.out.cell 6
    have x7 := HB3.out.cell 7
    have x8 := HB3.out.cell 8
    have x9 := HB3.out.cell 9
    have x10 := HB3.out.cell 10
    have x11 := HB3.out.cell 11
    simp at x0 x1 x2 x3 x4 x5 x6 x7 x8 x9 x10 x11
    go_wp2_with fail
    refine (HVA.out _ (by have := S20.out; omega) w3 HX3.out).mono ?_
    rintro e w4 ⟨rfl, hE4⟩
    rw [S9.out]
    have HB4 := hid (HB3.out.keep hE4 id)
    have HE4 := hid (HE3.out.ext hE4)
    have HX4 := hid (HX3.out.ext hE4)
    clear hE4 x0 x1 x2 x3 x4 x5 x6 x7 x8 x9 x10 x11
    have x0 := HB4.out.cell 0
    have x1 := HB4.out.cell 1
    have x2 := HB4.out.cell 2
    have x3 := HB4.out.cell 3
    have x4 := HB4.out.cell 4
    have x5 := HB4.out.cell 5
    have x6 := HB4.out.cell 6
    have x7 := HB4.out.cell 7
    have x8 := HB4.out.cell 8
    have x9 := HB4.out.cell 9
    have x10 := HB4.out.cell 10
    have x11 := HB4.out.cell 11
    simp at x0 x1 x2 x3 x4 x5 x6 x7 x8 x9 x10 x11
    go_wp2_with fail
    refine (HVA.out _ (by have := S21.out; omega) w4 HX4.out).mono ?_
    rintro e w5 ⟨rfl, hE5⟩
    rw [S10.out]
    have HB5 := hid (HB4.out.keep hE5 id)
    have HE5 := hid (HE4.out.ext hE5)
    have HX5 := hid (HX4.out.ext hE5)
    clear hE5 x0 x1 x2 x3 x4 x5 x6 x7 x8 x9 x10 x11
    have x0 := HB5.out.cell 0
    have x1 := HB5.out.cell 1
    have x2 := HB5.out.cell 2
    have x3 := HB5.out.cell 3
    have x4 := HB5.out.cell 4
    have x5 := HB5.out.cell 5
    have x6 := HB5.out.cell 6
    have x7 := HB5.out.cell 7
    have x8 := HB5.out.cell 8
    have x9 := HB5.out.cell 9
    have x10 := HB5.out.cell 10
    have x11 := HB5.out.cell 11
    simp at x0 x1 x2 x3 x4 x5 x6 x7 x8 x9 x10 x11
    have hi0 : ¬ i < 0 := by have := S11.out; omega
    go_wp2_with fail
    have h16 : (p.length : Int) + 1 + (((.mk 0 0 ⟨#[]⟩ [] []) : V).deep : Int) ≤ 16 := by have := S16.out; omega
    have h20 : (((.mk 0 0 ⟨#[]⟩ [] []) : V).weight : Int) ≤ 20000 := by have := S17.out; omega
    have hp16 : (p.length : Int) ≤ 16 := by have := S2.out.1; omega
    have hd16 : (((.mk 0 0 ⟨#[]⟩ [] []) : V).deep : Int) ≤ 16 := by omega
    have hww : wrap64 (((.mk 0 0 ⟨#[]⟩ [] []) : V).weight : Int) = (((.mk 0 0 ⟨#[]⟩ [] []) : V).weight : Int) := by unfold wrap64; omega
    have HWW := hid hww
    clear hww
    have HSN := hid (fun w' (he : Ext w5 w') => rsound_any w' (fun s hs w'' h => HVA.out s hs w'' ((HX5.out.ext he).ext h)) _ (.mk 0 0 ⟨#[]⟩ [] []) (Nat.le_refl _) S18.out _ _ w' (Keep.refl _ _) (HV.out.ext (HX5.out.ext he)))
    have HDP := hid (fun w' (he : Ext w5 w') => rdeep_any _ (.mk 0 0 ⟨#[]⟩ [] []) (Nat.le_refl _) S19.out _ _ w' (HV.out.ext (HX5.out.ext he)))
    have HWT := hid (fun w' (he : Ext w5 w') => rweight_any _ (.mk 0 0 ⟨#[]⟩ [] []) (Nat.le_refl _) _ _ w' (HV.out.ext (HX5.out.ext he)))
    generalize hdp : ((.mk 0 0 ⟨#[]⟩ [] []) : V).deep = dp at *
    generalize hwt : ((.mk 0 0 ⟨#[]⟩ [] []) : V).weight = wt at *
    clear hdp hwt
    have hw1 : IntKind.i64.wrap ((p.length : Int) + 1) = (p.length : Int) + 1 := by rw [IntKind.wrap_i64]; omega
    have hw2 : IntKind.i64.wrap ((p.length : Int) + 1 + (dp : Int)) = (p.length : Int) + 1 + (dp : Int) := by rw [IntKind.wrap_i64]; omega
    refine wp_region_grow (specOf [(2, fun u w' => u = .bool true), (10, fun u w' => u = .int .i64 (dp : Int)), (17, fun u w' => u = .int .i64 (wt : Int))]) (fun w' => Ext w5 w') (stable_cons (fun v w w' h he => h) (stable_cons (fun v w w' h he => h) (stable_cons (fun v w w' h he => h) stable_nil))) (stableC_ext _) (by kernel_rfl) (by kernel_rfl) (Keep.drew (Keep.refl _ _)) ?_
    iterate 2
      (try simp only [Act.put, List.setIfInBounds_toArray, List.set_cons_zero, List.set_cons_succ])
      refine grow_run rfl rfl rfl ?_
      apply Exists.intro
      refine ⟨fun w' hC hK => ?_, ?_⟩
      · have x6 := (hC.cell (lt_of_cell x6) id).trans x6
        have x7 := (hC.cell (lt_of_cell x7) id).trans x7
        have x8 := (hC.cell (lt_of_cell x8) id).trans x8
        have x9 := (hC.cell (lt_of_cell x9) id).trans x9
        have x10 := (hC.cell (lt_of_cell x10) id).trans x10
        go_simp
        rfl
    (try simp only [Act.put, List.setIfInBounds_toArray, List.set_cons_zero, List.set_cons_succ])
    refine grow_eff rfl rfl rfl (fun w' hC hK => ?_) (fun v2 hv2 => ?_)
    · unfold growAt
      go_simp
      refine grow_call ((HSN.out w' hC).mono ?_)
      rintro e w'' ⟨rfl, h2⟩
      rw [S15.out]
      exact ⟨_, rfl, h2, rfl⟩
    obtain ⟨_, _, rfl⟩ := hv2.head
    iterate 7
      (try simp only [Act.put, List.setIfInBounds_toArray, List.set_cons_zero, List.set_cons_succ])
      refine grow_run rfl rfl rfl ?_
      apply Exists.intro
      refine ⟨fun w' hC hK => ?_, ?_⟩
      · have x1 := (hC.cell (lt_of_cell x1) id).trans x1
        have x6 := (hC.cell (lt_of_cell x6) id).trans x6
        have x7 := (hC.cell (lt_of_cell x7) id).trans x7
        have x8 := (hC.cell (lt_of_cell x8) id).trans x8
        have x9 := (hC.cell (lt_of_cell x9) id).trans x9
        have x10 := (hC.cell (lt_of_cell x10) id).trans x10
        go_simp
        rfl
    (try simp only [Act.put, List.setIfInBounds_toArray, List.set_cons_zero, List.set_cons_succ])
    refine grow_eff rfl rfl rfl (fun w' hC hK => ?_) (fun v10 hv10 => ?_)
    · unfold growAt
      go_simp
      refine grow_call ((HDP.out w' hC).mono ?_)
      rintro e w'' ⟨rfl, h2⟩
      exact ⟨_, rfl, h2, rfl⟩
    obtain ⟨_, _, rfl⟩ := hv10.head
    iterate 6
      (try simp only [Act.put, List.setIfInBounds_toArray, List.set_cons_zero, List.set_cons_succ])
      refine grow_run rfl rfl rfl ?_
      apply Exists.intro
      refine ⟨fun w' hC hK => ?_, ?_⟩
      · have x6 := (hC.cell (lt_of_cell x6) id).trans x6
        have x7 := (hC.cell (lt_of_cell x7) id).trans x7
        have x8 := (hC.cell (lt_of_cell x8) id).trans x8
        have x9 := (hC.cell (lt_of_cell x9) id).trans x9
        have x10 := (hC.cell (lt_of_cell x10) id).trans x10
        go_simp
        rfl
    (try simp only [Act.put, List.setIfInBounds_toArray, List.set_cons_zero, List.set_cons_succ])
    refine grow_eff rfl rfl rfl (fun w' hC hK => ?_) (fun v17 hv17 => ?_)
    · unfold growAt
      go_simp
      refine grow_call ((HWT.out w' hC).mono ?_)
      rintro e w'' ⟨rfl, h2⟩
      rw [HWW.out]
      exact ⟨_, rfl, h2, rfl⟩
    obtain ⟨_, _, rfl⟩ := hv17.head
    iterate 3
      (try simp only [Act.put, List.setIfInBounds_toArray, List.set_cons_zero, List.set_cons_succ])
      refine grow_run rfl rfl rfl ?_
      apply Exists.intro
      refine ⟨fun w' hC hK => ?_, ?_⟩
      · go_simp
        rfl
    refine grow_nil fun wz hC hK => ?_
    have HC := hid (show Ext w5 wz from hC)
    clear hC hK
    go_wp2
    go_ret
    exact ⟨rfl, HE5.out.ext HC.out⟩
  · obtain rfl := s3.resolve_left (by decide)
    clear s4
    obtain rfl := s5.resolve_left (by decide)
    obtain rfl := s6.resolve_left (by decide)
    obtain rfl := s7.resolve_left (by decide)
    clear s8
    have x0 := HB.out.cell 0
    have x1 := HB.out.cell 1
    have x2 := HB.out.cell 2
    have x3 := HB.out.cell 3
    have x4 := HB.out.cell 4
    have x5 := HB.out.cell 5
    have x6 := HB.out.cell 6
    have x7 := HB.out.cell 7
    have x8 := HB.out.cell 8
    have x9 := HB.out.cell 9
    have x10 := HB.out.cell 10
    have x11 := HB.out.cell 11
    simp at x0 x1 x2 x3 x4 x5 x6 x7 x8 x9 x10 x11
    go_enter Tryd.func70, Tryd.ntmps70
    go_wp2_with fail
    refine (says_ok W 6 (by decide)).mono ?_
    rintro e _ ⟨rfl, rfl⟩
    rw [show textOf (saysN (6 : UInt8).toNat) = ⟨#[73, 86]⟩ from rfl]
    go_wp2_with fail
    refine (rsnd_ok W W HVA.out (Keep.refl _ _) _ _ _ HP.out S22.out).mono ?_
    rintro e w2 ⟨rfl, hE2⟩
    clear hW
    rw [show (decide (p.length ≤ 16) && !p.any badS) = true from by rw [S2.out.2]; simp; exact S2.out.1]
    have HB2 := hid (HB.out.keep hE2 id)
    have HE2 := hid (HE.out.ext hE2)
    have HX2 := hid hE2
    clear hE2 x0 x1 x2 x3 x4 x5 x6 x7 x8 x9 x10 x11
    have x0 := HB2.out.cell 0
    have x1 := HB2.out.cell 1
    have x2 := HB2.out.cell 2
    have x3 := HB2.out.cell 3
    have x4 := HB2.out.cell 4
    have x5 := HB2.out.cell 5
    have x6 := HB2.out.cell 6
    have x7 := HB2.out.cell 7
    have x8 := HB2.out.cell 8
    have x9 := HB2.out.cell 9
    have x10 := HB2.out.cell 10
    have x11 := HB2.out.cell 11
    simp at x0 x1 x2 x3 x4 x5 x6 x7 x8 x9 x10 x11
    go_wp2_with fail
    refine (in6_ok w2 ⟨#[73, 86]⟩ 75 (by decide)).mono ?_
    rintro e _ ⟨rfl, rfl⟩
    rw [show hasC ⟨#[73, 86]⟩ 75 = false from rfl]
    go_wp2_with fail
    refine (in6_ok w2 ⟨#[73, 86]⟩ 73 (by decide)).mono ?_
    rintro e _ ⟨rfl, rfl⟩
    rw [show hasC ⟨#[73, 86]⟩ 73 = true from rfl]
    go_wp2_with fail
    refine (in6_ok w2 ⟨#[73, 86]⟩ 74 (by decide)).mono ?_
    rintro e _ ⟨rfl, rfl⟩
    rw [show hasC ⟨#[73, 86]⟩ 74 = false from rfl]
    go_wp2_with fail
    refine (in6_ok w2 ⟨#[73, 86]⟩ 78 (by decide)).mono ?_
    rintro e _ ⟨rfl, rfl⟩
    rw [show hasC ⟨#[73, 86]⟩ 78 = false from rfl]
    go_wp2_with fail
    refine (in6_ok w2 ⟨#[73, 86]⟩ 83 (by decide)).mono ?_
    rintro e _ ⟨rfl, rfl⟩
    rw [show hasC ⟨#[73, 86]⟩ 83 = false from rfl]
    go_wp2_with fail
    refine (in6_ok w2 ⟨#[73, 86]⟩ 86 (by decide)).mono ?_
    rintro e _ ⟨rfl, rfl⟩
    rw [show hasC ⟨#[73, 86]⟩ 86 = true from rfl]
    go_wp2_with fail
    refine (HVA.out _ (by have := S20.out; omega) w2 HX2.out).mono ?_
    rintro e w3 ⟨rfl, hE3⟩
    rw [S9.out]
    have HB3 := hid (HB2.out.keep hE3 id)
    have HE3 := hid (HE2.out.ext hE3)
    have HX3 := hid (HX2.out.ext hE3)
    clear hE3 x0 x1 x2 x3 x4 x5 x6 x7 x8 x9 x10 x11
    have x0 := HB3.out.cell 0
    have x1 := HB3.out.cell 1
    have x2 := HB3.out.cell 2
    have x3 := HB3.out.cell 3
    have x4 := HB3.out.cell 4
    have x5 := HB3.out.cell 5
    have x6 := HB3.out.cell 6
    have x7 := HB3.out.cell 7
    have x8 := HB3.out.cell 8
    have x9 := HB3.out.cell 9
    have x10 := HB3.out.cell 10
    have x11 := HB3.out.cell 11
    simp at x0 x1 x2 x3 x4 x5 x6 x7 x8 x9 x10 x11
    go_wp2_with fail
    refine (HVA.out _ (by have := S21.out; omega) w3 HX3.out).mono ?_
    rintro e w4 ⟨rfl, hE4⟩
    rw [S10.out]
    have HB4 := hid (HB3.out.keep hE4 id)
    have HE4 := hid (HE3.out.ext hE4)
    have HX4 := hid (HX3.out.ext hE4)
    clear hE4 x0 x1 x2 x3 x4 x5 x6 x7 x8 x9 x10 x11
    have x0 := HB4.out.cell 0
    have x1 := HB4.out.cell 1
    have x2 := HB4.out.cell 2
    have x3 := HB4.out.cell 3
    have x4 := HB4.out.cell 4
    have x5 := HB4.out.cell 5
    have x6 := HB4.out.cell 6
    have x7 := HB4.out.cell 7
    have x8 := HB4.out.cell 8
    have x9 := HB4.out.cell 9
    have x10 := HB4.out.cell 10
    have x11 := HB4.out.cell 11
    simp at x0 x1 x2 x3 x4 x5 x6 x7 x8 x9 x10 x11
    have hi0 : ¬ i < 0 := by have := S11.out; omega
    go_wp2_with fail
    have h16 : (p.length : Int) + 1 + ((v : V).deep : Int) ≤ 16 := by have := S16.out; omega
    have h20 : ((v : V).weight : Int) ≤ 20000 := by have := S17.out; omega
    have hp16 : (p.length : Int) ≤ 16 := by have := S2.out.1; omega
    have hd16 : ((v : V).deep : Int) ≤ 16 := by omega
    have hww : wrap64 ((v : V).weight : Int) = ((v : V).weight : Int) := by unfold wrap64; omega
    have HWW := hid hww
    clear hww
    have HSN := hid (fun w' (he : Ext w4 w') => rsound_any w' (fun s hs w'' h => HVA.out s hs w'' ((HX4.out.ext he).ext h)) _ v (Nat.le_refl _) S18.out _ _ w' (Keep.refl _ _) (HV.out.ext (HX4.out.ext he)))
    have HDP := hid (fun w' (he : Ext w4 w') => rdeep_any _ v (Nat.le_refl _) S19.out _ _ w' (HV.out.ext (HX4.out.ext he)))
    have HWT := hid (fun w' (he : Ext w4 w') => rweight_any _ v (Nat.le_refl _) _ _ w' (HV.out.ext (HX4.out.ext he)))
    generalize hdp : (v : V).deep = dp at *
    generalize hwt : (v : V).weight = wt at *
    clear hdp hwt
    have hw1 : IntKind.i64.wrap ((p.length : Int) + 1) = (p.length : Int) + 1 := by rw [IntKind.wrap_i64]; omega
    have hw2 : IntKind.i64.wrap ((p.length : Int) + 1 + (dp : Int)) = (p.length : Int) + 1 + (dp : Int) := by rw [IntKind.wrap_i64]; omega
    refine wp_region_grow (specOf [(2, fun u w' => u = .bool true), (10, fun u w' => u = .int .i64 (dp : Int)), (17, fun u w' => u = .int .i64 (wt : Int))]) (fun w' => Ext w4 w') (stable_cons (fun v w w' h he => h) (stable_cons (fun v w w' h he => h) (stable_cons (fun v w w' h he => h) stable_nil))) (stableC_ext _) (by kernel_rfl) (by kernel_rfl) (Keep.drew (Keep.refl _ _)) ?_
    iterate 2
      (try simp only [Act.put, List.setIfInBounds_toArray, List.set_cons_zero, List.set_cons_succ])
      refine grow_run rfl rfl rfl ?_
      apply Exists.intro
      refine ⟨fun w' hC hK => ?_, ?_⟩
      · have x6 := (hC.cell (lt_of_cell x6) id).trans x6
        have x7 := (hC.cell (lt_of_cell x7) id).trans x7
        have x8 := (hC.cell (lt_of_cell x8) id).trans x8
        have x9 := (hC.cell (lt_of_cell x9) id).trans x9
        have x10 := (hC.cell (lt_of_cell x10) id).trans x10
        go_simp
        rfl
    (try simp only [Act.put, List.setIfInBounds_toArray, List.set_cons_zero, List.set_cons_succ])
    refine grow_eff rfl rfl rfl (fun w' hC hK => ?_) (fun v2 hv2 => ?_)
    · unfold growAt
      go_simp
      refine grow_call ((HSN.out w' hC).mono ?_)
      rintro e w'' ⟨rfl, h2⟩
      rw [S15.out]
      exact ⟨_, rfl, h2, rfl⟩
    obtain ⟨_, _, rfl⟩ := hv2.head
    iterate 7
      (try simp only [Act.put, List.setIfInBounds_toArray, List.set_cons_zero, List.set_cons_succ])
      refine grow_run rfl rfl rfl ?_
      apply Exists.intro
      refine ⟨fun w' hC hK => ?_, ?_⟩
      · have x1 := (hC.cell (lt_of_cell x1) id).trans x1
        have x6 := (hC.cell (lt_of_cell x6) id).trans x6
        have x7 := (hC.cell (lt_of_cell x7) id).trans x7
        have x8 := (hC.cell (lt_of_cell x8) id).trans x8
        have x9 := (hC.cell (lt_of_cell x9) id).trans x9
        have x10 := (hC.cell (lt_of_cell x10) id).trans x10
        go_simp
        rfl
    (try simp only [Act.put, List.setIfInBounds_toArray, List.set_cons_zero, List.set_cons_succ])
    refine grow_eff rfl rfl rfl (fun w' hC hK => ?_) (fun v10 hv10 => ?_)
    · unfold growAt
      go_simp
      refine grow_call ((HDP.out w' hC).mono ?_)
      rintro e w'' ⟨rfl, h2⟩
      exact ⟨_, rfl, h2, rfl⟩
    obtain ⟨_, _, rfl⟩ := hv10.head
    iterate 6
      (try simp only [Act.put, List.setIfInBounds_toArray, List.set_cons_zero, List.set_cons_succ])
      refine grow_run rfl rfl rfl ?_
      apply Exists.intro
      refine ⟨fun w' hC hK => ?_, ?_⟩
      · have x6 := (hC.cell (lt_of_cell x6) id).trans x6
        have x7 := (hC.cell (lt_of_cell x7) id).trans x7
        have x8 := (hC.cell (lt_of_cell x8) id).trans x8
        have x9 := (hC.cell (lt_of_cell x9) id).trans x9
        have x10 := (hC.cell (lt_of_cell x10) id).trans x10
        go_simp
        rfl
    (try simp only [Act.put, List.setIfInBounds_toArray, List.set_cons_zero, List.set_cons_succ])
    refine grow_eff rfl rfl rfl (fun w' hC hK => ?_) (fun v17 hv17 => ?_)
    · unfold growAt
      go_simp
      refine grow_call ((HWT.out w' hC).mono ?_)
      rintro e w'' ⟨rfl, h2⟩
      rw [HWW.out]
      exact ⟨_, rfl, h2, rfl⟩
    obtain ⟨_, _, rfl⟩ := hv17.head
    iterate 3
      (try simp only [Act.put, List.setIfInBounds_toArray, List.set_cons_zero, List.set_cons_succ])
      refine grow_run rfl rfl rfl ?_
      apply Exists.intro
      refine ⟨fun w' hC hK => ?_, ?_⟩
      · go_simp
        rfl
    refine grow_nil fun wz hC hK => ?_
    have HC := hid (show Ext w4 wz from hC)
    clear hC hK
    go_wp2
    go_ret
    exact ⟨rfl, HE4.out.ext HC.out⟩
  · obtain rfl := s3.resolve_left (by decide)
    clear s4
    clear s5
    obtain rfl := s6.resolve_left (by decide)
    obtain rfl := s7.resolve_left (by decide)
    obtain rfl := s8.resolve_left (by decide)
    have x0 := HB.out.cell 0
    have x1 := HB.out.cell 1
    have x2 := HB.out.cell 2
    have x3 := HB.out.cell 3
    have x4 := HB.out.cell 4
    have x5 := HB.out.cell 5
    have x6 := HB.out.cell 6
    have x7 := HB.out.cell 7
    have x8 := HB.out.cell 8
    have x9 := HB.out.cell 9
    have x10 := HB.out.cell 10
    have x11 := HB.out.cell 11
    simp at x0 x1 x2 x3 x4 x5 x6 x7 x8 x9 x10 x11
    go_enter Tryd.func70, Tryd.ntmps70
    go_wp2_with fail
    refine (says_ok W 7 (by decide)).mono ?_
    rintro e _ ⟨rfl, rfl⟩
    rw [show textOf (saysN (7 : UInt8).toNat) = ⟨#[73, 74]⟩ from rfl]
    go_wp2_with fail
    refine (rsnd_ok W W HVA.out (Keep.refl _ _) _ _ _ HP.out S22.out).mono ?_
    rintro e w2 ⟨rfl, hE2⟩
    clear hW
    rw [show (decide (p.length ≤ 16) && !p.any badS) = true from by rw [S2.out.2]; simp; exact S2.out.1]
    have HB2 := hid (HB.out.keep hE2 id)
    have HE2 := hid (HE.out.ext hE2)
    have HX2 := hid hE2
    clear hE2 x0 x1 x2 x3 x4 x5 x6 x7 x8 x9 x10 x11
    have x0 := HB2.out.cell 0
    have x1 := HB2.out.cell 1
    have x2 := HB2.out.cell 2
    have x3 := HB2.out.cell 3
    have x4 := HB2.out.cell 4
    have x5 := HB2.out.cell 5
    have x6 := HB2.out.cell 6
    have x7 := HB2.out.cell 7
    have x8 := HB2.out.cell 8
    have x9 := HB2.out.cell 9
    have x10 := HB2.out.cell 10
    have x11 := HB2.out.cell 11
    simp at x0 x1 x2 x3 x4 x5 x6 x7 x8 x9 x10 x11
    go_wp2_with fail
    refine (in6_ok w2 ⟨#[73, 74]⟩ 75 (by decide)).mono ?_
    rintro e _ ⟨rfl, rfl⟩
    rw [show hasC ⟨#[73, 74]⟩ 75 = false from rfl]
    go_wp2_with fail
    refine (in6_ok w2 ⟨#[73, 74]⟩ 73 (by decide)).mono ?_
    rintro e _ ⟨rfl, rfl⟩
    rw [show hasC ⟨#[73, 74]⟩ 73 = true from rfl]
    go_wp2_with fail
    refine (in6_ok w2 ⟨#[73, 74]⟩ 74 (by decide)).mono ?_
    rintro e _ ⟨rfl, rfl⟩
    rw [show hasC ⟨#[73, 74]⟩ 74 = true from rfl]
    go_wp2_with fail
    refine (in6_ok w2 ⟨#[73, 74]⟩ 78 (by decide)).mono ?_
    rintro e _ ⟨rfl, rfl⟩
    rw [show hasC ⟨#[73, 74]⟩ 78 = false from rfl]
    go_wp2_with fail
    refine (in6_ok w2 ⟨#[73, 74]⟩ 83 (by decide)).mono ?_
    rintro e _ ⟨rfl, rfl⟩
    rw [show hasC ⟨#[73, 74]⟩ 83 = false from rfl]
    go_wp2_with fail
    refine (in6_ok w2 ⟨#[73, 74]⟩ 86 (by decide)).mono ?_
    rintro e _ ⟨rfl, rfl⟩
    rw [show hasC ⟨#[73, 74]⟩ 86 = false from rfl]
    go_wp2_with fail
    refine (same_eq _ (.mk 0 0 ⟨#[]⟩ [] []) (Nat.le_refl _) _ _ _ _ w2 (HV.out.ext HX2.out) ⟨_, _, rfl, Sl.nil _ (fun _ => True), Sl.nil _ _⟩).mono ?_
    rintro e w3 ⟨rfl, hE3⟩
    have HB3 := hid (HB2.out.keep hE3 id)
    have HE3 := hid (HE2.out.ext hE3)
    have HX3 := hid (HX2.out.ext hE3)
    clear hE3 x0 x1 x2 x3 x4 x5 x6 x7 x8 x9 x10 x11
    have x0 := HB3.out.cell 0
    have x1 := HB3.out.cell 1
    have x2 := HB3.out.cell 2
    have x3 := HB3.out.cell 3
    have x4 := HB3.out.cell 4
    have x5 := HB3.out.cell 5
    have x6 := HB3.out.cell 6
    have x7 := HB3.out.cell 7
    have x8 := HB3.out.cell 8
    have x9 := HB3.out.cell 9
    have x10 := HB3.out.cell 10
    have x11 := HB3.out.cell 11
    simp at x0 x1 x2 x3 x4 x5 x6 x7 x8 x9 x10 x11
    go_wp2_with fail
    refine (HVA.out _ (by have := S20.out; omega) w3 HX3.out).mono ?_
    rintro e w4 ⟨rfl, hE4⟩
    rw [S9.out]
    have HB4 := hid (HB3.out.keep hE4 id)
    have HE4 := hid (HE3.out.ext hE4)
    have HX4 := hid (HX3.out.ext hE4)
    clear hE4 x0 x1 x2 x3 x4 x5 x6 x7 x8 x9 x10 x11
    have x0 := HB4.out.cell 0
    have x1 := HB4.out.cell 1
    have x2 := HB4.out.cell 2
    have x3 := HB4.out.cell 3
    have x4 := HB4.out.cell 4
    have x5 := HB4.out.cell 5
    have x6 := HB4.out.cell 6
    have x7 := HB4.out.cell 7
    have x8 := HB4.out.cell 8
    have x9 := HB4.out.cell 9
    have x10 := HB4.out.cell 10
    have x11 := HB4.out.cell 11
    simp at x0 x1 x2 x3 x4 x5 x6 x7 x8 x9 x10 x11
    go_wp2_with fail
    refine (HVA.out _ (by have := S21.out; omega) w4 HX4.out).mono ?_
    rintro e w5 ⟨rfl, hE5⟩
    rw [S10.out]
    have HB5 := hid (HB4.out.keep hE5 id)
    have HE5 := hid (HE4.out.ext hE5)
    have HX5 := hid (HX4.out.ext hE5)
    clear hE5 x0 x1 x2 x3 x4 x5 x6 x7 x8 x9 x10 x11
    have x0 := HB5.out.cell 0
    have x1 := HB5.out.cell 1
    have x2 := HB5.out.cell 2
    have x3 := HB5.out.cell 3
    have x4 := HB5.out.cell 4
    have x5 := HB5.out.cell 5
    have x6 := HB5.out.cell 6
    have x7 := HB5.out.cell 7
    have x8 := HB5.out.cell 8
    have x9 := HB5.out.cell 9
    have x10 := HB5.out.cell 10
    have x11 := HB5.out.cell 11
    simp at x0 x1 x2 x3 x4 x5 x6 x7 x8 x9 x10 x11
    have hi0 : ¬ i < 0 := by have := S11.out; omega
    have hj0 : ¬ j < 0 := by have := S12.out; omega
    go_wp2_with fail
    have h16 : (p.length : Int) + 1 + (((.mk 0 0 ⟨#[]⟩ [] []) : V).deep : Int) ≤ 16 := by have := S16.out; omega
    have h20 : (((.mk 0 0 ⟨#[]⟩ [] []) : V).weight : Int) ≤ 20000 := by have := S17.out; omega
    have hp16 : (p.length : Int) ≤ 16 := by have := S2.out.1; omega
    have hd16 : (((.mk 0 0 ⟨#[]⟩ [] []) : V).deep : Int) ≤ 16 := by omega
    have hww : wrap64 (((.mk 0 0 ⟨#[]⟩ [] []) : V).weight : Int) = (((.mk 0 0 ⟨#[]⟩ [] []) : V).weight : Int) := by unfold wrap64; omega
    have HWW := hid hww
    clear hww
    have HSN := hid (fun w' (he : Ext w5 w') => rsound_any w' (fun s hs w'' h => HVA.out s hs w'' ((HX5.out.ext he).ext h)) _ (.mk 0 0 ⟨#[]⟩ [] []) (Nat.le_refl _) S18.out _ _ w' (Keep.refl _ _) (HV.out.ext (HX5.out.ext he)))
    have HDP := hid (fun w' (he : Ext w5 w') => rdeep_any _ (.mk 0 0 ⟨#[]⟩ [] []) (Nat.le_refl _) S19.out _ _ w' (HV.out.ext (HX5.out.ext he)))
    have HWT := hid (fun w' (he : Ext w5 w') => rweight_any _ (.mk 0 0 ⟨#[]⟩ [] []) (Nat.le_refl _) _ _ w' (HV.out.ext (HX5.out.ext he)))
    generalize hdp : ((.mk 0 0 ⟨#[]⟩ [] []) : V).deep = dp at *
    generalize hwt : ((.mk 0 0 ⟨#[]⟩ [] []) : V).weight = wt at *
    clear hdp hwt
    have hw1 : IntKind.i64.wrap ((p.length : Int) + 1) = (p.length : Int) + 1 := by rw [IntKind.wrap_i64]; omega
    have hw2 : IntKind.i64.wrap ((p.length : Int) + 1 + (dp : Int)) = (p.length : Int) + 1 + (dp : Int) := by rw [IntKind.wrap_i64]; omega
    refine wp_region_grow (specOf [(2, fun u w' => u = .bool true), (10, fun u w' => u = .int .i64 (dp : Int)), (17, fun u w' => u = .int .i64 (wt : Int))]) (fun w' => Ext w5 w') (stable_cons (fun v w w' h he => h) (stable_cons (fun v w w' h he => h) (stable_cons (fun v w w' h he => h) stable_nil))) (stableC_ext _) (by kernel_rfl) (by kernel_rfl) (Keep.drew (Keep.refl _ _)) ?_
    iterate 2
      (try simp only [Act.put, List.setIfInBounds_toArray, List.set_cons_zero, List.set_cons_succ])
      refine grow_run rfl rfl rfl ?_
      apply Exists.intro
      refine ⟨fun w' hC hK => ?_, ?_⟩
      · have x6 := (hC.cell (lt_of_cell x6) id).trans x6
        have x7 := (hC.cell (lt_of_cell x7) id).trans x7
        have x8 := (hC.cell (lt_of_cell x8) id).trans x8
        have x9 := (hC.cell (lt_of_cell x9) id).trans x9
        have x10 := (hC.cell (lt_of_cell x10) id).trans x10
        go_simp
        rfl
    (try simp only [Act.put, List.setIfInBounds_toArray, List.set_cons_zero, List.set_cons_succ])
    refine grow_eff rfl rfl rfl (fun w' hC hK => ?_) (fun v2 hv2 => ?_)
    · unfold growAt
      go_simp
      refine grow_call ((HSN.out w' hC).mono ?_)
      rintro e w'' ⟨rfl, h2⟩
      rw [S15.out]
      exact ⟨_, rfl, h2, rfl⟩
    obtain ⟨_, _, rfl⟩ := hv2.head
    iterate 7
      (try simp only [Act.put, List.setIfInBounds_toArray, List.set_cons_zero, List.set_cons_succ])
      refine grow_run rfl rfl rfl ?_
      apply Exists.intro
      refine ⟨fun w' hC hK => ?_, ?_⟩
      · have x1 := (hC.cell (lt_of_cell x1) id).trans x1
        have x6 := (hC.cell (lt_of_cell x6) id).trans x6
        have x7 := (hC.cell (lt_of_cell x7) id).trans x7
        have x8 := (hC.cell (lt_of_cell x8) id).trans x8
        have x9 := (hC.cell (lt_of_cell x9) id).trans x9
        have x10 := (hC.cell (lt_of_cell x10) id).trans x10
        go_simp
        rfl
    (try simp only [Act.put, List.setIfInBounds_toArray, List.set_cons_zero, List.set_cons_succ])
    refine grow_eff rfl rfl rfl (fun w' hC hK => ?_) (fun v10 hv10 => ?_)
    · unfold growAt
      go_simp
      refine grow_call ((HDP.out w' hC).mono ?_)
      rintro e w'' ⟨rfl, h2⟩
      exact ⟨_, rfl, h2, rfl⟩
    obtain ⟨_, _, rfl⟩ := hv10.head
    iterate 6
      (try simp only [Act.put, List.setIfInBounds_toArray, List.set_cons_zero, List.set_cons_succ])
      refine grow_run rfl rfl rfl ?_
      apply Exists.intro
      refine ⟨fun w' hC hK => ?_, ?_⟩
      · have x6 := (hC.cell (lt_of_cell x6) id).trans x6
        have x7 := (hC.cell (lt_of_cell x7) id).trans x7
        have x8 := (hC.cell (lt_of_cell x8) id).trans x8
        have x9 := (hC.cell (lt_of_cell x9) id).trans x9
        have x10 := (hC.cell (lt_of_cell x10) id).trans x10
        go_simp
        rfl
    (try simp only [Act.put, List.setIfInBounds_toArray, List.set_cons_zero, List.set_cons_succ])
    refine grow_eff rfl rfl rfl (fun w' hC hK => ?_) (fun v17 hv17 => ?_)
    · unfold growAt
      go_simp
      refine grow_call ((HWT.out w' hC).mono ?_)
      rintro e w'' ⟨rfl, h2⟩
      rw [HWW.out]
      exact ⟨_, rfl, h2, rfl⟩
    obtain ⟨_, _, rfl⟩ := hv17.head
    iterate 3
      (try simp only [Act.put, List.setIfInBounds_toArray, List.set_cons_zero, List.set_cons_succ])
      refine grow_run rfl rfl rfl ?_
      apply Exists.intro
      refine ⟨fun w' hC hK => ?_, ?_⟩
      · go_simp
        rfl
    refine grow_nil fun wz hC hK => ?_
    have HC := hid (show Ext w5 wz from hC)
    clear hC hK
    go_wp2
    go_ret
    exact ⟨rfl, HE5.out.ext HC.out⟩
  · obtain rfl := s3.resolve_left (by decide)
    clear s4
    obtain rfl := s5.resolve_left (by decide)
    obtain rfl := s6.resolve_left (by decide)
    clear s7
    obtain rfl := s8.resolve_left (by decide)
    have x0 := HB.out.cell 0
    have x1 := HB.out.cell 1
    have x2 := HB.out.cell 2
    have x3 := HB.out.cell 3
    have x4 := HB.out.cell 4
    have x5 := HB.out.cell 5
    have x6 := HB.out.cell 6
    have x7 := HB.out.cell 7
    have x8 := HB.out.cell 8
    have x9 := HB.out.cell 9
    have x10 := HB.out.cell 10
    have x11 := HB.out.cell 11
    simp at x0 x1 x2 x3 x4 x5 x6 x7 x8 x9 x10 x11
    go_enter Tryd.func70, Tryd.ntmps70
    go_wp2_with fail
    refine (says_ok W 8 (by decide)).mono ?_
    rintro e _ ⟨rfl, rfl⟩
    rw [show textOf (saysN (8 : UInt8).toNat) = ⟨#[73, 83]⟩ from rfl]
    go_wp2_with fail
    refine (rsnd_ok W W HVA.out (Keep.refl _ _) _ _ _ HP.out S22.out).mono ?_
    rintro e w2 ⟨rfl, hE2⟩
    clear hW
    rw [show (decide (p.length ≤ 16) && !p.any badS) = true from by rw [S2.out.2]; simp; exact S2.out.1]
    have HB2 := hid (HB.out.keep hE2 id)
    have HE2 := hid (HE.out.ext hE2)
    have HX2 := hid hE2
    clear hE2 x0 x1 x2 x3 x4 x5 x6 x7 x8 x9 x10 x11
    have x0 := HB2.out.cell 0
    have x1 := HB2.out.cell 1
    have x2 := HB2.out.cell 2
    have x3 := HB2.out.cell 3
    have x4 := HB2.out.cell 4
    have x5 := HB2.out.cell 5
    have x6 := HB2.out.cell 6
    have x7 := HB2.out.cell 7
    have x8 := HB2.out.cell 8
    have x9 := HB2.out.cell 9
    have x10 := HB2.out.cell 10
    have x11 := HB2.out.cell 11
    simp at x0 x1 x2 x3 x4 x5 x6 x7 x8 x9 x10 x11
    go_wp2_with fail
    refine (in6_ok w2 ⟨#[73, 83]⟩ 75 (by decide)).mono ?_
    rintro e _ ⟨rfl, rfl⟩
    rw [show hasC ⟨#[73, 83]⟩ 75 = false from rfl]
    go_wp2_with fail
    refine (in6_ok w2 ⟨#[73, 83]⟩ 73 (by decide)).mono ?_
    rintro e _ ⟨rfl, rfl⟩
    rw [show hasC ⟨#[73, 83]⟩ 73 = true from rfl]
    go_wp2_with fail
    refine (in6_ok w2 ⟨#[73, 83]⟩ 74 (by decide)).mono ?_
    rintro e _ ⟨rfl, rfl⟩
    rw [show hasC ⟨#[73, 83]⟩ 74 = false from rfl]
    go_wp2_with fail
    refine (in6_ok w2 ⟨#[73, 83]⟩ 78 (by decide)).mono ?_
    rintro e _ ⟨rfl, rfl⟩
    rw [show hasC ⟨#[73, 83]⟩ 78 = false from rfl]
    go_wp2_with fail
    refine (in6_ok w2 ⟨#[73, 83]⟩ 83 (by decide)).mono ?_
    rintro e _ ⟨rfl, rfl⟩
    rw [show hasC ⟨#[73, 83]⟩ 83 = true from rfl]
    go_wp2_with fail
    refine (in6_ok w2 ⟨#[73, 83]⟩ 86 (by decide)).mono ?_
    rintro e _ ⟨rfl, rfl⟩
    rw [show hasC ⟨#[73, 83]⟩ 86 = false from rfl]
    go_wp2_with fail
    refine (same_eq _ (.mk 0 0 ⟨#[]⟩ [] []) (Nat.le_refl _) _ _ _ _ w2 (HV.out.ext HX2.out) ⟨_, _, rfl, Sl.nil _ (fun _ => True), Sl.nil _ _⟩).mono ?_
    rintro e w3 ⟨rfl, hE3⟩
    have HB3 := hid (HB2.out.keep hE3 id)
    have HE3 := hid (HE2.out.ext hE3)
    have HX3 := hid (HX2.out.ext hE3)
    clear hE3 x0 x1 x2 x3 x4 x5 x6 x7 x8 x9 x10 x11
    have x0 := HB3.out.cell 0
    have x1 := HB3.out.cell 1
    have x2 := HB3.out.cell 2
    have x3 := HB3.out.cell 3
    have x4 := HB3.out.cell 4
    have x5 := HB3.out.cell 5
    have x6 := HB3.out.cell 6
    have x7 := HB3.out.cell 7
    have x8 := HB3.out.cell 8
    have x9 := HB3.out.cell 9
    have x10 := HB3.out.cell 10
    have x11 := HB3.out.cell 11
    simp at x0 x1 x2 x3 x4 x5 x6 x7 x8 x9 x10 x11
    go_wp2_with fail
    refine (HVA.out _ (by have := S20.out; omega) w3 HX3.out).mono ?_
    rintro e w4 ⟨rfl, hE4⟩
    rw [S9.out]
    have HB4 := hid (HB3.out.keep hE4 id)
    have HE4 := hid (HE3.out.ext hE4)
    have HX4 := hid (HX3.out.ext hE4)
    clear hE4 x0 x1 x2 x3 x4 x5 x6 x7 x8 x9 x10 x11
    have x0 := HB4.out.cell 0
    have x1 := HB4.out.cell 1
    have x2 := HB4.out.cell 2
    have x3 := HB4.out.cell 3
    have x4 := HB4.out.cell 4
    have x5 := HB4.out.cell 5
    have x6 := HB4.out.cell 6
    have x7 := HB4.out.cell 7
    have x8 := HB4.out.cell 8
    have x9 := HB4.out.cell 9
    have x10 := HB4.out.cell 10
    have x11 := HB4.out.cell 11
    simp at x0 x1 x2 x3 x4 x5 x6 x7 x8 x9 x10 x11
    go_wp2_with fail
    refine (HVA.out _ (by have := S21.out; omega) w4 HX4.out).mono ?_
    rintro e w5 ⟨rfl, hE5⟩
    rw [S10.out]
    have HB5 := hid (HB4.out.keep hE5 id)
    have HE5 := hid (HE4.out.ext hE5)
    have HX5 := hid (HX4.out.ext hE5)
    clear hE5 x0 x1 x2 x3 x4 x5 x6 x7 x8 x9 x10 x11
    have x0 := HB5.out.cell 0
    have x1 := HB5.out.cell 1
    have x2 := HB5.out.cell 2
    have x3 := HB5.out.cell 3
    have x4 := HB5.out.cell 4
    have x5 := HB5.out.cell 5
    have x6 := HB5.out.cell 6
    have x7 := HB5.out.cell 7
    have x8 := HB5.out.cell 8
    have x9 := HB5.out.cell 9
    have x10 := HB5.out.cell 10
    have x11 := HB5.out.cell 11
    simp at x0 x1 x2 x3 x4 x5 x6 x7 x8 x9 x10 x11
    have hi0 : ¬ i < 0 := by have := S11.out; omega
    have hse : s.toList.isEmpty = false := by have := S13.out rfl; rw [ByteArray.toList_eq]; exact this
    go_wp2_with fail
    have h16 : (p.length : Int) + 1 + (((.mk 0 0 ⟨#[]⟩ [] []) : V).deep : Int) ≤ 16 := by have := S16.out; omega
    have h20 : (((.mk 0 0 ⟨#[]⟩ [] []) : V).weight : Int) ≤ 20000 := by have := S17.out; omega
    have hp16 : (p.length : Int) ≤ 16 := by have := S2.out.1; omega
    have hd16 : (((.mk 0 0 ⟨#[]⟩ [] []) : V).deep : Int) ≤ 16 := by omega
    have hww : wrap64 (((.mk 0 0 ⟨#[]⟩ [] []) : V).weight : Int) = (((.mk 0 0 ⟨#[]⟩ [] []) : V).weight : Int) := by unfold wrap64; omega
    have HWW := hid hww
    clear hww
    have HSN := hid (fun w' (he : Ext w5 w') => rsound_any w' (fun s hs w'' h => HVA.out s hs w'' ((HX5.out.ext he).ext h)) _ (.mk 0 0 ⟨#[]⟩ [] []) (Nat.le_refl _) S18.out _ _ w' (Keep.refl _ _) (HV.out.ext (HX5.out.ext he)))
    have HDP := hid (fun w' (he : Ext w5 w') => rdeep_any _ (.mk 0 0 ⟨#[]⟩ [] []) (Nat.le_refl _) S19.out _ _ w' (HV.out.ext (HX5.out.ext he)))
    have HWT := hid (fun w' (he : Ext w5 w') => rweight_any _ (.mk 0 0 ⟨#[]⟩ [] []) (Nat.le_refl _) _ _ w' (HV.out.ext (HX5.out.ext he)))
    generalize hdp : ((.mk 0 0 ⟨#[]⟩ [] []) : V).deep = dp at *
    generalize hwt : ((.mk 0 0 ⟨#[]⟩ [] []) : V).weight = wt at *
    clear hdp hwt
    have hw1 : IntKind.i64.wrap ((p.length : Int) + 1) = (p.length : Int) + 1 := by rw [IntKind.wrap_i64]; omega
    have hw2 : IntKind.i64.wrap ((p.length : Int) + 1 + (dp : Int)) = (p.length : Int) + 1 + (dp : Int) := by rw [IntKind.wrap_i64]; omega
    refine wp_region_grow (specOf [(2, fun u w' => u = .bool true), (10, fun u w' => u = .int .i64 (dp : Int)), (17, fun u w' => u = .int .i64 (wt : Int))]) (fun w' => Ext w5 w') (stable_cons (fun v w w' h he => h) (stable_cons (fun v w w' h he => h) (stable_cons (fun v w w' h he => h) stable_nil))) (stableC_ext _) (by kernel_rfl) (by kernel_rfl) (Keep.drew (Keep.refl _ _)) ?_
    iterate 2
      (try simp only [Act.put, List.setIfInBounds_toArray, List.set_cons_zero, List.set_cons_succ])
      refine grow_run rfl rfl rfl ?_
      apply Exists.intro
      refine ⟨fun w' hC hK => ?_, ?_⟩
      · have x6 := (hC.cell (lt_of_cell x6) id).trans x6
        have x7 := (hC.cell (lt_of_cell x7) id).trans x7
        have x8 := (hC.cell (lt_of_cell x8) id).trans x8
        have x9 := (hC.cell (lt_of_cell x9) id).trans x9
        have x10 := (hC.cell (lt_of_cell x10) id).trans x10
        go_simp
        rfl
    (try simp only [Act.put, List.setIfInBounds_toArray, List.set_cons_zero, List.set_cons_succ])
    refine grow_eff rfl rfl rfl (fun w' hC hK => ?_) (fun v2 hv2 => ?_)
    · unfold growAt
      go_simp
      refine grow_call ((HSN.out w' hC).mono ?_)
      rintro e w'' ⟨rfl, h2⟩
      rw [S15.out]
      exact ⟨_, rfl, h2, rfl⟩
    obtain ⟨_, _, rfl⟩ := hv2.head
    iterate 7
      (try simp only [Act.put, List.setIfInBounds_toArray, List.set_cons_zero, List.set_cons_succ])
      refine grow_run rfl rfl rfl ?_
      apply Exists.intro
      refine ⟨fun w' hC hK => ?_, ?_⟩
      · have x1 := (hC.cell (lt_of_cell x1) id).trans x1
        have x6 := (hC.cell (lt_of_cell x6) id).trans x6
        have x7 := (hC.cell (lt_of_cell x7) id).trans x7
        have x8 := (hC.cell (lt_of_cell x8) id).trans x8
        have x9 := (hC.cell (lt_of_cell x9) id).trans x9
        have x10 := (hC.cell (lt_of_cell x10) id).trans x10
        go_simp
        rfl
    (try simp only [Act.put, List.setIfInBounds_toArray, List.set_cons_zero, List.set_cons_succ])
    refine grow_eff rfl rfl rfl (fun w' hC hK => ?_) (fun v10 hv10 => ?_)
    · unfold growAt
      go_simp
      refine grow_call ((HDP.out w' hC).mono ?_)
      rintro e w'' ⟨rfl, h2⟩
      exact ⟨_, rfl, h2, rfl⟩
    obtain ⟨_, _, rfl⟩ := hv10.head
    iterate 6
      (try simp only [Act.put, List.setIfInBounds_toArray, List.set_cons_zero, List.set_cons_succ])
      refine grow_run rfl rfl rfl ?_
      apply Exists.intro
      refine ⟨fun w' hC hK => ?_, ?_⟩
      · have x6 := (hC.cell (lt_of_cell x6) id).trans x6
        have x7 := (hC.cell (lt_of_cell x7) id).trans x7
        have x8 := (hC.cell (lt_of_cell x8) id).trans x8
        have x9 := (hC.cell (lt_of_cell x9) id).trans x9
        have x10 := (hC.cell (lt_of_cell x10) id).trans x10
        go_simp
        rfl
    (try simp only [Act.put, List.setIfInBounds_toArray, List.set_cons_zero, List.set_cons_succ])
    refine grow_eff rfl rfl rfl (fun w' hC hK => ?_) (fun v17 hv17 => ?_)
    · unfold growAt
      go_simp
      refine grow_call ((HWT.out w' hC).mono ?_)
      rintro e w'' ⟨rfl, h2⟩
      rw [HWW.out]
      exact ⟨_, rfl, h2, rfl⟩
    obtain ⟨_, _, rfl⟩ := hv17.head
    iterate 3
      (try simp only [Act.put, List.setIfInBounds_toArray, List.set_cons_zero, List.set_cons_succ])
      refine grow_run rfl rfl rfl ?_
      apply Exists.intro
      refine ⟨fun w' hC hK => ?_, ?_⟩
      · go_simp
        rfl
    refine grow_nil fun wz hC hK => ?_
    have HC := hid (show Ext w5 wz from hC)
    clear hC hK
    go_wp2
    go_ret
    exact ⟨rfl, HE5.out.ext HC.out⟩
  · obtain rfl := s3.resolve_left (by decide)
    clear s4
    obtain rfl := s5.resolve_left (by decide)
    clear s6
    obtain rfl := s7.resolve_left (by decide)
    obtain rfl := s8.resolve_left (by decide)
    have x0 := HB.out.cell 0
    have x1 := HB.out.cell 1
    have x2 := HB.out.cell 2
    have x3 := HB.out.cell 3
    have x4 := HB.out.cell 4
    have x5 := HB.out.cell 5
    have x6 := HB.out.cell 6
    have x7 := HB.out.cell 7
    have x8 := HB.out.cell 8
    have x9 := HB.out.cell 9
    have x10 := HB.out.cell 10
    have x11 := HB.out.cell 11
    simp at x0 x1 x2 x3 x4 x5 x6 x7 x8 x9 x10 x11
    go_enter Tryd.func70, Tryd.ntmps70
    go_wp2_with fail
    refine (says_ok W 9 (by decide)).mono ?_
    rintro e _ ⟨rfl, rfl⟩
    rw [show textOf (saysN (9 : UInt8).toNat) = ⟨#[73, 78]⟩ from rfl]
    go_wp2_with fail
    refine (rsnd_ok W W HVA.out (Keep.refl _ _) _ _ _ HP.out S22.out).mono ?_
    rintro e w2 ⟨rfl, hE2⟩
    clear hW
    rw [show (decide (p.length ≤ 16) && !p.any badS) = true from by rw [S2.out.2]; simp; exact S2.out.1]
    have HB2 := hid (HB.out.keep hE2 id)
    have HE2 := hid (HE.out.ext hE2)
    have HX2 := hid hE2
    clear hE2 x0 x1 x2 x3 x4 x5 x6 x7 x8 x9 x10 x11
    have x0 := HB2.out.cell 0
    have x1 := HB2.out.cell 1
    have x2 := HB2.out.cell 2
    have x3 := HB2.out.cell 3
    have x4 := HB2.out.cell 4
    have x5 := HB2.out.cell 5
    have x6 := HB2.out.cell 6
    have x7 := HB2.out.cell 7
    have x8 := HB2.out.cell 8
    have x9 := HB2.out.cell 9
    have x10 := HB2.out.cell 10
    have x11 := HB2.out.cell 11
    simp at x0 x1 x2 x3 x4 x5 x6 x7 x8 x9 x10 x11
    go_wp2_with fail
    refine (in6_ok w2 ⟨#[73, 78]⟩ 75 (by decide)).mono ?_
    rintro e _ ⟨rfl, rfl⟩
    rw [show hasC ⟨#[73, 78]⟩ 75 = false from rfl]
    go_wp2_with fail
    refine (in6_ok w2 ⟨#[73, 78]⟩ 73 (by decide)).mono ?_
    rintro e _ ⟨rfl, rfl⟩
    rw [show hasC ⟨#[73, 78]⟩ 73 = true from rfl]
    go_wp2_with fail
    refine (in6_ok w2 ⟨#[73, 78]⟩ 74 (by decide)).mono ?_
    rintro e _ ⟨rfl, rfl⟩
    rw [show hasC ⟨#[73, 78]⟩ 74 = false from rfl]
    go_wp2_with fail
    refine (in6_ok w2 ⟨#[73, 78]⟩ 78 (by decide)).mono ?_
    rintro e _ ⟨rfl, rfl⟩
    rw [show hasC ⟨#[73, 78]⟩ 78 = true from rfl]
    go_wp2_with fail
    refine (in6_ok w2 ⟨#[73, 78]⟩ 83 (by decide)).mono ?_
    rintro e _ ⟨rfl, rfl⟩
    rw [show hasC ⟨#[73, 78]⟩ 83 = false from rfl]
    go_wp2_with fail
    refine (in6_ok w2 ⟨#[73, 78]⟩ 86 (by decide)).mono ?_
    rintro e _ ⟨rfl, rfl⟩
    rw [show hasC ⟨#[73, 78]⟩ 86 = false from rfl]
    go_wp2_with fail
    refine (same_eq _ (.mk 0 0 ⟨#[]⟩ [] []) (Nat.le_refl _) _ _ _ _ w2 (HV.out.ext HX2.out) ⟨_, _, rfl, Sl.nil _ (fun _ => True), Sl.nil _ _⟩).mono ?_
    rintro e w3 ⟨rfl, hE3⟩
    have HB3 := hid (HB2.out.keep hE3 id)
    have HE3 := hid (HE2.out.ext hE3)
    have HX3 := hid (HX2.out.ext hE3)
    clear hE3 x0 x1 x2 x3 x4 x5 x6 x7 x8 x9 x10 x11
    have x0 := HB3.out.cell 0
    have x1 := HB3.out.cell 1
    have x2 := HB3.out.cell 2
    have x3 := HB3.out.cell 3
    have x4 := HB3.out.cell 4
    have x5 := HB3.out.cell 5
    have x6 := HB3.out.cell 6
    have x7 := HB3.out.cell 7
    have x8 := HB3.out.cell 8
    have x9 := HB3.out.cell 9
    have x10 := HB3.out.cell 10
    have x11 := HB3.out.cell 11
    simp at x0 x1 x2 x3 x4 x5 x6 x7 x8 x9 x10 x11
    go_wp2_with fail
    refine (HVA.out _ (by have := S20.out; omega) w3 HX3.out).mono ?_
    rintro e w4 ⟨rfl, hE4⟩
    rw [S9.out]
    have HB4 := hid (HB3.out.keep hE4 id)
    have HE4 := hid (HE3.out.ext hE4)
    have HX4 := hid (HX3.out.ext hE4)
    clear hE4 x0 x1 x2 x3 x4 x5 x6 x7 x8 x9 x10 x11
    have x0 := HB4.out.cell 0
    have x1 := HB4.out.cell 1
    have x2 := HB4.out.cell 2
    have x3 := HB4.out.cell 3
    have x4 := HB4.out.cell 4
    have x5 := HB4.out.cell 5
    have x6 := HB4.out.cell 6
    have x7 := HB4.out.cell 7
    have x8 := HB4.out.cell 8
    have x9 := HB4.out.cell 9
    have x10 := HB4.out.cell 10
    have x11 := HB4.out.cell 11
    simp at x0 x1 x2 x3 x4 x5 x6 x7 x8 x9 x10 x11
    go_wp2_with fail
    refine (HVA.out _ (by have := S21.out; omega) w4 HX4.out).mono ?_
    rintro e w5 ⟨rfl, hE5⟩
    rw [S10.out]
    have HB5 := hid (HB4.out.keep hE5 id)
    have HE5 := hid (HE4.out.ext hE5)
    have HX5 := hid (HX4.out.ext hE5)
    clear hE5 x0 x1 x2 x3 x4 x5 x6 x7 x8 x9 x10 x11
    have x0 := HB5.out.cell 0
    have x1 := HB5.out.cell 1
    have x2 := HB5.out.cell 2
    have x3 := HB5.out.cell 3
    have x4 := HB5.out.cell 4
    have x5 := HB5.out.cell 5
    have x6 := HB5.out.cell 6
    have x7 := HB5.out.cell 7
    have x8 := HB5.out.cell 8
    have x9 := HB5.out.cell 9
    have x10 := HB5.out.cell 10
    have x11 := HB5.out.cell 11
    simp at x0 x1 x2 x3 x4 x5 x6 x7 x8 x9 x10 x11
    have hi0 : ¬ i < 0 := by have := S11.out; omega
    have hn1 : ¬ n < 1 := by have := S14.out rfl; omega
    go_wp2_with fail
    have h16 : (p.length : Int) + 1 + (((.mk 0 0 ⟨#[]⟩ [] []) : V).deep : Int) ≤ 16 := by have := S16.out; omega
    have h20 : (((.mk 0 0 ⟨#[]⟩ [] []) : V).weight : Int) ≤ 20000 := by have := S17.out; omega
    have hp16 : (p.length : Int) ≤ 16 := by have := S2.out.1; omega
    have hd16 : (((.mk 0 0 ⟨#[]⟩ [] []) : V).deep : Int) ≤ 16 := by omega
    have hww : wrap64 (((.mk 0 0 ⟨#[]⟩ [] []) : V).weight : Int) = (((.mk 0 0 ⟨#[]⟩ [] []) : V).weight : Int) := by unfold wrap64; omega
    have HWW := hid hww
    clear hww
    have HSN := hid (fun w' (he : Ext w5 w') => rsound_any w' (fun s hs w'' h => HVA.out s hs w'' ((HX5.out.ext he).ext h)) _ (.mk 0 0 ⟨#[]⟩ [] []) (Nat.le_refl _) S18.out _ _ w' (Keep.refl _ _) (HV.out.ext (HX5.out.ext he)))
    have HDP := hid (fun w' (he : Ext w5 w') => rdeep_any _ (.mk 0 0 ⟨#[]⟩ [] []) (Nat.le_refl _) S19.out _ _ w' (HV.out.ext (HX5.out.ext he)))
    have HWT := hid (fun w' (he : Ext w5 w') => rweight_any _ (.mk 0 0 ⟨#[]⟩ [] []) (Nat.le_refl _) _ _ w' (HV.out.ext (HX5.out.ext he)))
    generalize hdp : ((.mk 0 0 ⟨#[]⟩ [] []) : V).deep = dp at *
    generalize hwt : ((.mk 0 0 ⟨#[]⟩ [] []) : V).weight = wt at *
    clear hdp hwt
    have hw1 : IntKind.i64.wrap ((p.length : Int) + 1) = (p.length : Int) + 1 := by rw [IntKind.wrap_i64]; omega
    have hw2 : IntKind.i64.wrap ((p.length : Int) + 1 + (dp : Int)) = (p.length : Int) + 1 + (dp : Int) := by rw [IntKind.wrap_i64]; omega
    refine wp_region_grow (specOf [(2, fun u w' => u = .bool true), (10, fun u w' => u = .int .i64 (dp : Int)), (17, fun u w' => u = .int .i64 (wt : Int))]) (fun w' => Ext w5 w') (stable_cons (fun v w w' h he => h) (stable_cons (fun v w w' h he => h) (stable_cons (fun v w w' h he => h) stable_nil))) (stableC_ext _) (by kernel_rfl) (by kernel_rfl) (Keep.drew (Keep.refl _ _)) ?_
    iterate 2
      (try simp only [Act.put, List.setIfInBounds_toArray, List.set_cons_zero, List.set_cons_succ])
      refine grow_run rfl rfl rfl ?_
      apply Exists.intro
      refine ⟨fun w' hC hK => ?_, ?_⟩
      · have x6 := (hC.cell (lt_of_cell x6) id).trans x6
        have x7 := (hC.cell (lt_of_cell x7) id).trans x7
        have x8 := (hC.cell (lt_of_cell x8) id).trans x8
        have x9 := (hC.cell (lt_of_cell x9) id).trans x9
        have x10 := (hC.cell (lt_of_cell x10) id).trans x10
        go_simp
        rfl
    (try simp only [Act.put, List.setIfInBounds_toArray, List.set_cons_zero, List.set_cons_succ])
    refine grow_eff rfl rfl rfl (fun w' hC hK => ?_) (fun v2 hv2 => ?_)
    · unfold growAt
      go_simp
      refine grow_call ((HSN.out w' hC).mono ?_)
      rintro e w'' ⟨rfl, h2⟩
      rw [S15.out]
      exact ⟨_, rfl, h2, rfl⟩
    obtain ⟨_, _, rfl⟩ := hv2.head
    iterate 7
      (try simp only [Act.put, List.setIfInBounds_toArray, List.set_cons_zero, List.set_cons_succ])
      refine grow_run rfl rfl rfl ?_
      apply Exists.intro
      refine ⟨fun w' hC hK => ?_, ?_⟩
      · have x1 := (hC.cell (lt_of_cell x1) id).trans x1
        have x6 := (hC.cell (lt_of_cell x6) id).trans x6
        have x7 := (hC.cell (lt_of_cell x7) id).trans x7
        have x8 := (hC.cell (lt_of_cell x8) id).trans x8
        have x9 := (hC.cell (lt_of_cell x9) id).trans x9
        have x10 := (hC.cell (lt_of_cell x10) id).trans x10
        go_simp
        rfl
    (try simp only [Act.put, List.setIfInBounds_toArray, List.set_cons_zero, List.set_cons_succ])
    refine grow_eff rfl rfl rfl (fun w' hC hK => ?_) (fun v10 hv10 => ?_)
    · unfold growAt
      go_simp
      refine grow_call ((HDP.out w' hC).mono ?_)
      rintro e w'' ⟨rfl, h2⟩
      exact ⟨_, rfl, h2, rfl⟩
    obtain ⟨_, _, rfl⟩ := hv10.head
    iterate 6
      (try simp only [Act.put, List.setIfInBounds_toArray, List.set_cons_zero, List.set_cons_succ])
      refine grow_run rfl rfl rfl ?_
      apply Exists.intro
      refine ⟨fun w' hC hK => ?_, ?_⟩
      · have x6 := (hC.cell (lt_of_cell x6) id).trans x6
        have x7 := (hC.cell (lt_of_cell x7) id).trans x7
        have x8 := (hC.cell (lt_of_cell x8) id).trans x8
        have x9 := (hC.cell (lt_of_cell x9) id).trans x9
        have x10 := (hC.cell (lt_of_cell x10) id).trans x10
        go_simp
        rfl
    (try simp only [Act.put, List.setIfInBounds_toArray, List.set_cons_zero, List.set_cons_succ])
    refine grow_eff rfl rfl rfl (fun w' hC hK => ?_) (fun v17 hv17 => ?_)
    · unfold growAt
      go_simp
      refine grow_call ((HWT.out w' hC).mono ?_)
      rintro e w'' ⟨rfl, h2⟩
      rw [HWW.out]
      exact ⟨_, rfl, h2, rfl⟩
    obtain ⟨_, _, rfl⟩ := hv17.head
    iterate 3
      (try simp only [Act.put, List.setIfInBounds_toArray, List.set_cons_zero, List.set_cons_succ])
      refine grow_run rfl rfl rfl ?_
      apply Exists.intro
      refine ⟨fun w' hC hK => ?_, ?_⟩
      · go_simp
        rfl
    refine grow_nil fun wz hC hK => ?_
    have HC := hid (show Ext w5 wz from hC)
    clear hC hK
    go_wp2
    go_ret
    exact ⟨rfl, HE5.out.ext HC.out⟩
end Go.Proofs.YtioplgfopillnaaDoor
