/- Do6B, Do6C: laid together. -/
import Derived.Test.YtioplgfopillnaaDoorMeB28
import Derived.Test.YtioplgfopillnaaDoorMeB24
set_option linter.unusedSimpArgs false
set_option linter.unusedVariables false
set_option maxHeartbeats 25600000
set_option maxRecDepth 20000
namespace Go.Proofs.YtioplgfopillnaaDoor
open Go.RowKit
theorem rsound6_ok (w0 : World) (hva : ValAny w0) (w : World) (hw : Ext w0 w) (S : BS) (u : Value) (c : Cp) (h : CAt w S u c) (hs : Snd6 c) :
  Calls Tryd.prog 70 #[u] w fun e w' => e = .returned (.bool true) ∧ Ext w w' := by
 obtain ⟨k, p, key, i, j, n, v, s⟩ := c
 obtain ⟨pv, lv, ov, rfl, h1, h2, h3⟩ := h
 obtain ⟨s1, s2, s3, s4, s5, s6, s7, s8, s9, s10, s11, s12, s13, s14, s15, s16, s17, s18, s19, s20, s21, s22⟩ := hs
 simp only at h1 h2 h3 s1 s2 s3 s4 s5 s6 s7 s8 s9 s10 s11 s12 s13 s14 s15 s16 s17 s18 s19 s20 s21 s22
 obtain ⟨Ap, cp, rfl, hpl, hpm⟩ := h1.shape
 obtain ⟨Al, cl, rfl, _⟩ := h2.shape
 obtain ⟨Ao, co, rfl, _⟩ := h3.shape
 obtain ⟨W, hW⟩ : ∃ W, w.alloc (.cells (cpCells ⟨k, p, key, i, j, n, v, s⟩ (.slice Ap p.length cp) (.slice Al v.l.length cl) (.slice Ao v.o.length co)) TCMP) = W := ⟨_, rfl⟩
 have hE : Ext w W := by rw [← hW]; exact (Keep.refl _ _).alloc _
 have hb : Blk W w.heap.size TCMP (#[U8 k, .slice Ap p.length cp, .string key, .int .i64 i, .int .i64 j, .int .i64 n, U8 v.kind, .int .i64 v.n, .string v.s, .slice Al v.l.length cl, .slice Ao v.o.length co, .string s] : Array Value) := by rw [← hW]; exact Blk.new _ _ _
 have HP := hid (h1.ext ESt.ok hE)
 have HV := hid (show VAt W S (.agg #[U8 v.kind, .int .i64 v.n, .string v.s, .slice Al v.l.length cl, .slice Ao v.o.length co]) v from ⟨_, _, rfl, h2.ext EVal.ok hE, h3.ext EField.ok hE⟩)
 have HE := hid hE
 have HB := hid hb
 have HVA := hid (show ValAny W from fun s hs w' he => hva s hs w' ((hw.ext hE).ext he))
 have hk9 : k = 1 ∨ k = 2 ∨ k = 3 ∨ k = 4 ∨ k = 5 ∨ k = 6 ∨ k = 7 ∨ k = 8 ∨ k = 9 := by
  have : k.toNat = 1 ∨ k.toNat = 2 ∨ k.toNat = 3 ∨ k.toNat = 4 ∨ k.toNat = 5 ∨ k.toNat = 6 ∨ k.toNat = 7 ∨ k.toNat = 8 ∨ k.toNat = 9 := by omega
  rcases this with h | h | h | h | h | h | h | h | h
  ·exact .inl (UInt8.toNat_inj.1 h)
  ·exact .inr (.inl (UInt8.toNat_inj.1 h))
  ·exact .inr (.inr (.inl (UInt8.toNat_inj.1 h)))
  ·exact .inr (.inr (.inr (.inl (UInt8.toNat_inj.1 h))))
  ·exact .inr (.inr (.inr (.inr (.inl (UInt8.toNat_inj.1 h)))))
  ·exact .inr (.inr (.inr (.inr (.inr (.inl (UInt8.toNat_inj.1 h))))))
  ·exact .inr (.inr (.inr (.inr (.inr (.inr (.inl (UInt8.toNat_inj.1 h)))))))
  ·exact .inr (.inr (.inr (.inr (.inr (.inr (.inr (.inl (UInt8.toNat_inj.1 h))))))))
  ·exact .inr (.inr (.inr (.inr (.inr (.inr (.inr (.inr (UInt8.toNat_inj.1 h))))))))
 have S2 := hid s2
 have S9 := hid s9
 have S10 := hid s10
 have S11 := hid s11
 have S12 := hid s12
 have S13 := hid s13
 have S14 := hid s14
 have S15 := hid s15
 have S16 := hid s16
 have S17 := hid s17
 have S18 := hid s18
 have S19 := hid s19
 have S20 := hid s20
 have S21 := hid s21
 have S22 := hid s22
 clear h1 h2 h3 hE hb s1 s2 s9 s10 s11 s12 s13 s14 s15 s16 s17 s18 s19 s20 s21 s22 hpl hpm hva hw
 obtain ⟨tx, htx⟩ : ∃ tx, textOf (saysN k.toNat) = tx := ⟨_, rfl⟩
 have HTX := hid htx
 clear htx
 have hg : (k = 2 ∨ k = 4 ∨ k = 6) ∨ (k = 1 ∨ k = 3 ∨ k = 5 ∨ k = 7 ∨ k = 8 ∨ k = 9) := by rcases hk9 with h | h | h | h | h | h | h | h | h <;> simp [h]
 clear hk9
 rcases hg with hg | hg
 ·rcases hg with rfl | rfl | rfl
  all_goals
   simp (decide := true) only [true_or, false_or] at s3
   try subst s3
   simp (decide := true) only [true_or, false_or] at s4
   try subst s4
   simp (decide := true) only [true_or, false_or] at s5
   try subst s5
   simp (decide := true) only [true_or, false_or] at s6
   try subst s6
   simp (decide := true) only [true_or, false_or] at s7
   try subst s7
   simp (decide := true) only [true_or, false_or] at s8
   try subst s8
   obtain ⟨x0, x1, x2, x3, x4, x5, x6, x7, x8, x9, x10, x11⟩ := sq12 HB.out
   go_enter Tryd.func70, Tryd.ntmps70
   go_wp2_with fail
   refine (says_ok W _ (by decide)).mono ?_
   rintro e _ ⟨rfl, rfl⟩
   rw [HTX.out]
   have hte : tx.toList.isEmpty = false := by rw [← HTX.out, ByteArray.toList_eq]; rfl
   have htz : tx.size ≤ 1000 := by rw [← HTX.out]; decide
   go_wp2_with fail
   refine (rsnd_ok W W HVA.out (Keep.refl _ _) _ _ _ HP.out S22.out).mono ?_
   rintro e w2 ⟨rfl, hE2⟩
   clear hW
   rw [show (decide (p.length ≤ 16) && !p.any badS) = true from by rw [S2.out.2]; simp; exact S2.out.1]
   have HB2 := hid (HB.out.keep hE2 id)
   have HE2 := hid (HE.out.ext hE2)
   have HX2 := hid hE2
   clear hE2 x0 x1 x2 x3 x4 x5 x6 x7 x8 x9 x10 x11
   obtain ⟨x0, x1, x2, x3, x4, x5, x6, x7, x8, x9, x10, x11⟩ := sq12 HB2.out
   go_wp2_with fail
   refine (in6_ok w2 tx 75 htz).mono ?_
   rintro e _ ⟨rfl, rfl⟩
   first | rw [show hasC tx 75 = true from by rw [← HTX.out]; rfl] | rw [show hasC tx 75 = false from by rw [← HTX.out]; rfl]
   go_wp2_with fail
   refine (in6_ok w2 tx 73 htz).mono ?_
   rintro e _ ⟨rfl, rfl⟩
   first | rw [show hasC tx 73 = true from by rw [← HTX.out]; rfl] | rw [show hasC tx 73 = false from by rw [← HTX.out]; rfl]
   go_wp2_with fail
   refine (in6_ok w2 tx 74 htz).mono ?_
   rintro e _ ⟨rfl, rfl⟩
   first | rw [show hasC tx 74 = true from by rw [← HTX.out]; rfl] | rw [show hasC tx 74 = false from by rw [← HTX.out]; rfl]
   go_wp2_with fail
   refine (in6_ok w2 tx 78 htz).mono ?_
   rintro e _ ⟨rfl, rfl⟩
   first | rw [show hasC tx 78 = true from by rw [← HTX.out]; rfl] | rw [show hasC tx 78 = false from by rw [← HTX.out]; rfl]
   go_wp2_with fail
   refine (in6_ok w2 tx 83 htz).mono ?_
   rintro e _ ⟨rfl, rfl⟩
   first | rw [show hasC tx 83 = true from by rw [← HTX.out]; rfl] | rw [show hasC tx 83 = false from by rw [← HTX.out]; rfl]
   go_wp2_with fail
   refine (in6_ok w2 tx 86 htz).mono ?_
   rintro e _ ⟨rfl, rfl⟩
   first | rw [show hasC tx 86 = true from by rw [← HTX.out]; rfl] | rw [show hasC tx 86 = false from by rw [← HTX.out]; rfl]
   go_wp2_with fail
   refine (HVA.out _ (by have := S20.out; omega) w2 HX2.out).mono ?_
   rintro e w3 ⟨rfl, hE3⟩
   rw [S9.out]
   have HB3 := hid (HB2.out.keep hE3 id)
   have HE3 := hid (HE2.out.ext hE3)
   have HX3 := hid (HX2.out.ext hE3)
   clear hE3 x0 x1 x2 x3 x4 x5 x6 x7 x8 x9 x10 x11
   obtain ⟨x0, x1, x2, x3, x4, x5, x6, x7, x8, x9, x10, x11⟩ := sq12 HB3.out
   go_wp2_with fail
   refine (HVA.out _ (by have := S21.out; omega) w3 HX3.out).mono ?_
   rintro e w4 ⟨rfl, hE4⟩
   rw [S10.out]
   have HB4 := hid (HB3.out.keep hE4 id)
   have HE4 := hid (HE3.out.ext hE4)
   have HX4 := hid (HX3.out.ext hE4)
   clear hE4 x0 x1 x2 x3 x4 x5 x6 x7 x8 x9 x10 x11
   obtain ⟨x0, x1, x2, x3, x4, x5, x6, x7, x8, x9, x10, x11⟩ := sq12 HB4.out
   try have hi0 : ¬ i < 0 := by have := S11.out; omega
   try have hj0 : ¬ j < 0 := by have := S12.out; omega
   try have hse : s.toList.isEmpty = false := by have := S13.out rfl; rw [ByteArray.toList_eq]; exact this
   try have hn1 : ¬ n < 1 := by have := S14.out rfl; omega
   go_wp2_with fail
   have h16 : (p.length : Int) + 1 + ((v : V).deep : Int) ≤ 16 := by have := S16.out; omega
   have h20 : ((v : V).weight : Int) ≤ 20000 := by have := S17.out; omega
   have hp16 : (p.length : Int) ≤ 16 := by have := S2.out.1; omega
   have hd16 : ((v : V).deep : Int) ≤ 16 := by omega
   have hww : wrap64 ((v : V).weight : Int) = ((v : V).weight : Int) := by unfold wrap64; omega
   have HWW := hid hww
   clear hww
   have HSN := hid (fun w' (he : Ext w4 w') => rsound_any w' (fun s hs w'' h => HVA.out s hs w'' ((HX4.out.ext he).ext h)) _ v (Nat.le_refl _) S18.out _ _ w' (Keep.refl _ _) (HV.out.ext (HX4.out.ext he)))
   have HDP := hid (fun w' (he : Ext w4 w') => rdeep_any _ v (Nat.le_refl _) S19.out _ _ w' (HV.out.ext (HX4.out.ext he)))
   have HWT := hid (fun w' (he : Ext w4 w') => rweight_any _ v (Nat.le_refl _) _ _ w' (HV.out.ext (HX4.out.ext he)))
   generalize hdp : (v : V).deep = dp at *
   generalize hwt : (v : V).weight = wt at *
   clear hdp hwt
   have hw1 : IntKind.i64.wrap ((p.length : Int) + 1) = (p.length : Int) + 1 := by rw [IntKind.wrap_i64]; omega
   have hw2 : IntKind.i64.wrap ((p.length : Int) + 1 + (dp : Int)) = (p.length : Int) + 1 + (dp : Int) := by rw [IntKind.wrap_i64]; omega
   refine wp_region_grow (specOf [(2, fun u w' => u = .bool true), (10, fun u w' => u = .int .i64 (dp : Int)), (17, fun u w' => u = .int .i64 (wt : Int))]) (fun w' => Ext w4 w') (stable_cons (fun v w w' h he => h) (stable_cons (fun v w w' h he => h) (stable_cons (fun v w w' h he => h) stable_nil))) (stableC_ext _) (by kernel_rfl) (by kernel_rfl) (Keep.drew (Keep.refl _ _)) ?_
   iterate 2
    (try simp only [Act.put, sqa, sqb, sqc])
    refine grow_run rfl rfl rfl ?_
    apply Exists.intro
    refine ⟨fun w' hC hK => ?_, ?_⟩
    ·have x6 := sqw hC x6
     have x7 := sqw hC x7
     have x8 := sqw hC x8
     have x9 := sqw hC x9
     have x10 := sqw hC x10
     go_simp
     rfl
   (try simp only [Act.put, sqa, sqb, sqc])
   refine grow_eff rfl rfl rfl (fun w' hC hK => ?_) (fun v2 hv2 => ?_)
   ·unfold growAt
    go_simp
    refine grow_call ((HSN.out w' hC).mono ?_)
    rintro e w'' ⟨rfl, h2⟩
    rw [S15.out]
    exact ⟨_, rfl, h2, rfl⟩
   obtain ⟨_, _, rfl⟩ := hv2.head
   iterate 7
    (try simp only [Act.put, sqa, sqb, sqc])
    refine grow_run rfl rfl rfl ?_
    apply Exists.intro
    refine ⟨fun w' hC hK => ?_, ?_⟩
    ·have x1 := sqw hC x1
     have x6 := sqw hC x6
     have x7 := sqw hC x7
     have x8 := sqw hC x8
     have x9 := sqw hC x9
     have x10 := sqw hC x10
     go_simp
     rfl
   (try simp only [Act.put, sqa, sqb, sqc])
   refine grow_eff rfl rfl rfl (fun w' hC hK => ?_) (fun v10 hv10 => ?_)
   ·unfold growAt
    go_simp
    refine grow_call ((HDP.out w' hC).mono ?_)
    rintro e w'' ⟨rfl, h2⟩
    exact ⟨_, rfl, h2, rfl⟩
   obtain ⟨_, _, rfl⟩ := hv10.head
   iterate 6
    (try simp only [Act.put, sqa, sqb, sqc])
    refine grow_run rfl rfl rfl ?_
    apply Exists.intro
    refine ⟨fun w' hC hK => ?_, ?_⟩
    ·have x6 := sqw hC x6
     have x7 := sqw hC x7
     have x8 := sqw hC x8
     have x9 := sqw hC x9
     have x10 := sqw hC x10
     go_simp
     rfl
   (try simp only [Act.put, sqa, sqb, sqc])
   refine grow_eff rfl rfl rfl (fun w' hC hK => ?_) (fun v17 hv17 => ?_)
   ·unfold growAt
    go_simp
    refine grow_call ((HWT.out w' hC).mono ?_)
    rintro e w'' ⟨rfl, h2⟩
    rw [HWW.out]
    exact ⟨_, rfl, h2, rfl⟩
   obtain ⟨_, _, rfl⟩ := hv17.head
   iterate 3
    (try simp only [Act.put, sqa, sqb, sqc])
    refine grow_run rfl rfl rfl ?_
    apply Exists.intro
    refine ⟨fun w' hC hK => ?_, ?_⟩
    ·go_simp
     rfl
   refine grow_nil fun wz hC hK => ?_
   have HC := hid (show Ext w4 wz from hC)
   clear hC hK
   go_wp2
   go_ret
   exact ⟨rfl, HE4.out.ext HC.out⟩
 ·rcases hg with rfl | rfl | rfl | rfl | rfl | rfl
  all_goals
   simp (decide := true) only [true_or, false_or] at s3
   try subst s3
   simp (decide := true) only [true_or, false_or] at s4
   try subst s4
   simp (decide := true) only [true_or, false_or] at s5
   try subst s5
   simp (decide := true) only [true_or, false_or] at s6
   try subst s6
   simp (decide := true) only [true_or, false_or] at s7
   try subst s7
   simp (decide := true) only [true_or, false_or] at s8
   try subst s8
   obtain ⟨x0, x1, x2, x3, x4, x5, x6, x7, x8, x9, x10, x11⟩ := sq12 HB.out
   go_enter Tryd.func70, Tryd.ntmps70
   go_wp2_with fail
   refine (says_ok W _ (by decide)).mono ?_
   rintro e _ ⟨rfl, rfl⟩
   rw [HTX.out]
   have hte : tx.toList.isEmpty = false := by rw [← HTX.out, ByteArray.toList_eq]; rfl
   have htz : tx.size ≤ 1000 := by rw [← HTX.out]; decide
   go_wp2_with fail
   refine (rsnd_ok W W HVA.out (Keep.refl _ _) _ _ _ HP.out S22.out).mono ?_
   rintro e w2 ⟨rfl, hE2⟩
   clear hW
   rw [show (decide (p.length ≤ 16) && !p.any badS) = true from by rw [S2.out.2]; simp; exact S2.out.1]
   have HB2 := hid (HB.out.keep hE2 id)
   have HE2 := hid (HE.out.ext hE2)
   have HX2 := hid hE2
   clear hE2 x0 x1 x2 x3 x4 x5 x6 x7 x8 x9 x10 x11
   obtain ⟨x0, x1, x2, x3, x4, x5, x6, x7, x8, x9, x10, x11⟩ := sq12 HB2.out
   go_wp2_with fail
   refine (in6_ok w2 tx 75 htz).mono ?_
   rintro e _ ⟨rfl, rfl⟩
   first | rw [show hasC tx 75 = true from by rw [← HTX.out]; rfl] | rw [show hasC tx 75 = false from by rw [← HTX.out]; rfl]
   go_wp2_with fail
   refine (in6_ok w2 tx 73 htz).mono ?_
   rintro e _ ⟨rfl, rfl⟩
   first | rw [show hasC tx 73 = true from by rw [← HTX.out]; rfl] | rw [show hasC tx 73 = false from by rw [← HTX.out]; rfl]
   go_wp2_with fail
   refine (in6_ok w2 tx 74 htz).mono ?_
   rintro e _ ⟨rfl, rfl⟩
   first | rw [show hasC tx 74 = true from by rw [← HTX.out]; rfl] | rw [show hasC tx 74 = false from by rw [← HTX.out]; rfl]
   go_wp2_with fail
   refine (in6_ok w2 tx 78 htz).mono ?_
   rintro e _ ⟨rfl, rfl⟩
   first | rw [show hasC tx 78 = true from by rw [← HTX.out]; rfl] | rw [show hasC tx 78 = false from by rw [← HTX.out]; rfl]
   go_wp2_with fail
   refine (in6_ok w2 tx 83 htz).mono ?_
   rintro e _ ⟨rfl, rfl⟩
   first | rw [show hasC tx 83 = true from by rw [← HTX.out]; rfl] | rw [show hasC tx 83 = false from by rw [← HTX.out]; rfl]
   go_wp2_with fail
   refine (in6_ok w2 tx 86 htz).mono ?_
   rintro e _ ⟨rfl, rfl⟩
   first | rw [show hasC tx 86 = true from by rw [← HTX.out]; rfl] | rw [show hasC tx 86 = false from by rw [← HTX.out]; rfl]
   go_wp2_with fail
   refine (same_eq _ (.mk 0 0 ⟨#[]⟩ [] []) (Nat.le_refl _) _ _ _ _ w2 (HV.out.ext HX2.out) ⟨_, _, rfl, Sl.nil _ (fun _ => True), Sl.nil _ _⟩).mono ?_
   rintro e w3 ⟨rfl, hE3⟩
   have HB3 := hid (HB2.out.keep hE3 id)
   have HE3 := hid (HE2.out.ext hE3)
   have HX3 := hid (HX2.out.ext hE3)
   clear hE3 x0 x1 x2 x3 x4 x5 x6 x7 x8 x9 x10 x11
   obtain ⟨x0, x1, x2, x3, x4, x5, x6, x7, x8, x9, x10, x11⟩ := sq12 HB3.out
   go_wp2_with fail
   refine (HVA.out _ (by have := S20.out; omega) w3 HX3.out).mono ?_
   rintro e w4 ⟨rfl, hE4⟩
   rw [S9.out]
   have HB4 := hid (HB3.out.keep hE4 id)
   have HE4 := hid (HE3.out.ext hE4)
   have HX4 := hid (HX3.out.ext hE4)
   clear hE4 x0 x1 x2 x3 x4 x5 x6 x7 x8 x9 x10 x11
   obtain ⟨x0, x1, x2, x3, x4, x5, x6, x7, x8, x9, x10, x11⟩ := sq12 HB4.out
   go_wp2_with fail
   refine (HVA.out _ (by have := S21.out; omega) w4 HX4.out).mono ?_
   rintro e w5 ⟨rfl, hE5⟩
   rw [S10.out]
   have HB5 := hid (HB4.out.keep hE5 id)
   have HE5 := hid (HE4.out.ext hE5)
   have HX5 := hid (HX4.out.ext hE5)
   clear hE5 x0 x1 x2 x3 x4 x5 x6 x7 x8 x9 x10 x11
   obtain ⟨x0, x1, x2, x3, x4, x5, x6, x7, x8, x9, x10, x11⟩ := sq12 HB5.out
   try have hi0 : ¬ i < 0 := by have := S11.out; omega
   try have hj0 : ¬ j < 0 := by have := S12.out; omega
   try have hse : s.toList.isEmpty = false := by have := S13.out rfl; rw [ByteArray.toList_eq]; exact this
   try have hn1 : ¬ n < 1 := by have := S14.out rfl; omega
   go_wp2_with fail
   have h16 : (p.length : Int) + 1 + (((.mk 0 0 ⟨#[]⟩ [] []) : V).deep : Int) ≤ 16 := by have := S16.out; omega
   have h20 : (((.mk 0 0 ⟨#[]⟩ [] []) : V).weight : Int) ≤ 20000 := by have := S17.out; omega
   have hp16 : (p.length : Int) ≤ 16 := by have := S2.out.1; omega
   have hd16 : (((.mk 0 0 ⟨#[]⟩ [] []) : V).deep : Int) ≤ 16 := by omega
   have hww : wrap64 (((.mk 0 0 ⟨#[]⟩ [] []) : V).weight : Int) = (((.mk 0 0 ⟨#[]⟩ [] []) : V).weight : Int) := by unfold wrap64; omega
   have HWW := hid hww
   clear hww
   have HSN := hid (fun w' (he : Ext w5 w') => rsound_any w' (fun s hs w'' h => HVA.out s hs w'' ((HX5.out.ext he).ext h)) _ (.mk 0 0 ⟨#[]⟩ [] []) (Nat.le_refl _) S18.out _ _ w' (Keep.refl _ _) (HV.out.ext (HX5.out.ext he)))
   have HDP := hid (fun w' (he : Ext w5 w') => rdeep_any _ (.mk 0 0 ⟨#[]⟩ [] []) (Nat.le_refl _) S19.out _ _ w' (HV.out.ext (HX5.out.ext he)))
   have HWT := hid (fun w' (he : Ext w5 w') => rweight_any _ (.mk 0 0 ⟨#[]⟩ [] []) (Nat.le_refl _) _ _ w' (HV.out.ext (HX5.out.ext he)))
   generalize hdp : ((.mk 0 0 ⟨#[]⟩ [] []) : V).deep = dp at *
   generalize hwt : ((.mk 0 0 ⟨#[]⟩ [] []) : V).weight = wt at *
   clear hdp hwt
   have hw1 : IntKind.i64.wrap ((p.length : Int) + 1) = (p.length : Int) + 1 := by rw [IntKind.wrap_i64]; omega
   have hw2 : IntKind.i64.wrap ((p.length : Int) + 1 + (dp : Int)) = (p.length : Int) + 1 + (dp : Int) := by rw [IntKind.wrap_i64]; omega
   refine wp_region_grow (specOf [(2, fun u w' => u = .bool true), (10, fun u w' => u = .int .i64 (dp : Int)), (17, fun u w' => u = .int .i64 (wt : Int))]) (fun w' => Ext w5 w') (stable_cons (fun v w w' h he => h) (stable_cons (fun v w w' h he => h) (stable_cons (fun v w w' h he => h) stable_nil))) (stableC_ext _) (by kernel_rfl) (by kernel_rfl) (Keep.drew (Keep.refl _ _)) ?_
   iterate 2
    (try simp only [Act.put, sqa, sqb, sqc])
    refine grow_run rfl rfl rfl ?_
    apply Exists.intro
    refine ⟨fun w' hC hK => ?_, ?_⟩
    ·have x6 := sqw hC x6
     have x7 := sqw hC x7
     have x8 := sqw hC x8
     have x9 := sqw hC x9
     have x10 := sqw hC x10
     go_simp
     rfl
   (try simp only [Act.put, sqa, sqb, sqc])
   refine grow_eff rfl rfl rfl (fun w' hC hK => ?_) (fun v2 hv2 => ?_)
   ·unfold growAt
    go_simp
    refine grow_call ((HSN.out w' hC).mono ?_)
    rintro e w'' ⟨rfl, h2⟩
    rw [S15.out]
    exact ⟨_, rfl, h2, rfl⟩
   obtain ⟨_, _, rfl⟩ := hv2.head
   iterate 7
    (try simp only [Act.put, sqa, sqb, sqc])
    refine grow_run rfl rfl rfl ?_
    apply Exists.intro
    refine ⟨fun w' hC hK => ?_, ?_⟩
    ·have x1 := sqw hC x1
     have x6 := sqw hC x6
     have x7 := sqw hC x7
     have x8 := sqw hC x8
     have x9 := sqw hC x9
     have x10 := sqw hC x10
     go_simp
     rfl
   (try simp only [Act.put, sqa, sqb, sqc])
   refine grow_eff rfl rfl rfl (fun w' hC hK => ?_) (fun v10 hv10 => ?_)
   ·unfold growAt
    go_simp
    refine grow_call ((HDP.out w' hC).mono ?_)
    rintro e w'' ⟨rfl, h2⟩
    exact ⟨_, rfl, h2, rfl⟩
   obtain ⟨_, _, rfl⟩ := hv10.head
   iterate 6
    (try simp only [Act.put, sqa, sqb, sqc])
    refine grow_run rfl rfl rfl ?_
    apply Exists.intro
    refine ⟨fun w' hC hK => ?_, ?_⟩
    ·have x6 := sqw hC x6
     have x7 := sqw hC x7
     have x8 := sqw hC x8
     have x9 := sqw hC x9
     have x10 := sqw hC x10
     go_simp
     rfl
   (try simp only [Act.put, sqa, sqb, sqc])
   refine grow_eff rfl rfl rfl (fun w' hC hK => ?_) (fun v17 hv17 => ?_)
   ·unfold growAt
    go_simp
    refine grow_call ((HWT.out w' hC).mono ?_)
    rintro e w'' ⟨rfl, h2⟩
    rw [HWW.out]
    exact ⟨_, rfl, h2, rfl⟩
   obtain ⟨_, _, rfl⟩ := hv17.head
   iterate 3
    (try simp only [Act.put, sqa, sqb, sqc])
    refine grow_run rfl rfl rfl ?_
    apply Exists.intro
    refine ⟨fun w' hC hK => ?_, ?_⟩
    ·go_simp
     rfl
   refine grow_nil fun wz hC hK => ?_
   have HC := hid (show Ext w5 wz from hC)
   clear hC hK
   go_wp2
   go_ret
   exact ⟨rfl, HE5.out.ext HC.out⟩
theorem rkinds_put (w : World) (S S2 : BS) (u t : Value) (x : V) (c : Cp) (hx : VAt w S u x) (hc : CAt w S2 t c) (hk : c.kind = 2 ∨ (c.kind = 3 ∧ fieldIs x.o c.key = true)) (hxk : x.kind = 5) :
  Calls Tryd.prog 71 #[u, t] w fun e w' => e = .returned (.int .i64 0) ∧ Ext w w' := by
 obtain ⟨pv, lv, ov, rfl, h1, h2, h3⟩ := hc
 obtain ⟨Ap, cp, rfl, _⟩ := h1.shape
 obtain ⟨Al, cl, rfl, _⟩ := h2.shape
 obtain ⟨Ao, co, rfl, _⟩ := h3.shape
 obtain ⟨lx, ox, rfl, k1, k2⟩ := hx
 obtain ⟨Bl, dl, rfl, _⟩ := k1.shape
 obtain ⟨Bo, do_, rfl, _⟩ := k2.shape
 obtain ⟨W, hW⟩ : ∃ W, (w.alloc (.cells #[U8 x.kind, .int .i64 x.n, .string x.s, .slice Bl x.l.length dl, .slice Bo x.o.length do_] TVAL)).alloc (.cells (cpCells c (.slice Ap c.path.length cp) (.slice Al c.v.l.length cl) (.slice Ao c.v.o.length co)) TCMP) = W := ⟨_, rfl⟩
 have hE : Ext w W := by rw [← hW]; exact ((Keep.refl _ _).alloc _).alloc _
 have hb : Blk W w.heap.size TVAL #[U8 x.kind, .int .i64 x.n, .string x.s, .slice Bl x.l.length dl, .slice Bo x.o.length do_] := by rw [← hW]; exact (Blk.new _ _ _).alloc _
 have hcb : Blk W (w.heap.size + 1) TCMP (cpCells c (.slice Ap c.path.length cp) (.slice Al c.v.l.length cl) (.slice Ao c.v.o.length co)) := by
  have := Blk.new (w.alloc (.cells #[U8 x.kind, .int .i64 x.n, .string x.s, .slice Bl x.l.length dl, .slice Bo x.o.length do_] TVAL)) TCMP (cpCells c (.slice Ap c.path.length cp) (.slice Al c.v.l.length cl) (.slice Ao c.v.o.length co))
  rw [World.size_alloc, hW] at this
  exact this
 have HV := hid (show VAt W S (.agg #[U8 x.kind, .int .i64 x.n, .string x.s, .slice Bl x.l.length dl, .slice Bo x.o.length do_]) x from ⟨_, _, rfl, k1.ext EVal.ok hE, k2.ext EField.ok hE⟩)
 have HE := hid hE
 have HCB := hid hcb
 have HB := hid hb
 obtain ⟨y0, y1, y2, y3, y4⟩ := blk5 hb
 obtain ⟨x0, x1, x2, x3, x4, x5, x6, x7, x8, x9, x10, x11⟩ := sq12 hcb
 clear h1 h2 h3 k1 k2 hE hb hcb
 have HXK := hid hxk
 clear hxk
 have hcall := rfield_val W S _ x c.key HV.out
 obtain ⟨fl, hfl⟩ : ∃ fl, fieldL x.o c.key = fl := ⟨_, rfl⟩
 obtain ⟨fi, hfi⟩ : ∃ fi, fieldIs x.o c.key = fi := ⟨_, rfl⟩
 rw [hfl, hfi] at hcall
 rw [hfi] at hk
 clear hfl hfi
 rcases hk with hk | ⟨hk, rfl⟩
 all_goals
  rw [hk] at x0
  go_enter Tryd.func71, Tryd.ntmps71
  go_wp2_with fail
  refine hcall.mono ?_
  rintro e W2 ⟨rfl, hE2⟩
  have hcb := HCB.out.keep hE2 id
  have hb := HB.out.keep hE2 id
  have HE2 := hid (HE.out.ext hE2)
  clear hE2 hW hcall HV HE HCB HB x0 x1 x2 x3 x4 x5 x6 x7 x8 x9 x10 x11 y0 y1 y2 y3 y4
  obtain ⟨y0, y1, y2, y3, y4⟩ := blk5 hb
  rw [HXK.out] at y0
  have x0 := hcb.cell 0
  have x2 := hcb.cell 2
  simp at x0 x2
  rw [hk] at x0
  clear hb hcb hk
  go_wp2
  go_ret
  exact ⟨rfl, HE2.out⟩
def KindsOk (x : V) (c : Cp) (w0 : World) : Prop := ∀ (w : World) (S S2 : BS) (u t : Value), Ext w0 w → VAt w S u x → CAt w S2 t c → Calls Tryd.prog 71 #[u, t] w fun e w' => e = .returned (.int .i64 0) ∧ Ext w w'
theorem rcheck6_ok (w0 : World) (hva : ValAny w0) (w : World) (hw : Ext w0 w) (S S2 : BS) (u t : Value) (v x : V) (c : Cp) (hv : VAt w S u v) (hc : CAt w S2 t c) (hs : Snd6 c) (hg : getV v c.path = some x) (hsz : v.size ≤ 1000000) (hk : KindsOk x c w0) :
  Calls Tryd.prog 46 #[u, t] w fun e w' => e = .returned (.int .i64 0) ∧ Ext w w' := by
 obtain ⟨pv, lv, ov, rfl, h1, h2, h3⟩ := hc
 obtain ⟨Ap, cp, rfl, _⟩ := h1.shape
 obtain ⟨Al, cl, rfl, _⟩ := h2.shape
 obtain ⟨Ao, co, rfl, _⟩ := h3.shape
 obtain ⟨lx, ox, rfl, k1, k2⟩ := hv
 obtain ⟨Bl, dl, rfl, _⟩ := k1.shape
 obtain ⟨Bo, do_, rfl, _⟩ := k2.shape
 obtain ⟨W, hW⟩ : ∃ W, (w.alloc (.cells #[U8 v.kind, .int .i64 v.n, .string v.s, .slice Bl v.l.length dl, .slice Bo v.o.length do_] TVAL)).alloc (.cells (cpCells c (.slice Ap c.path.length cp) (.slice Al c.v.l.length cl) (.slice Ao c.v.o.length co)) TCMP) = W := ⟨_, rfl⟩
 have hE : Ext w W := by rw [← hW]; exact ((Keep.refl _ _).alloc _).alloc _
 have hb : Blk W w.heap.size TVAL #[U8 v.kind, .int .i64 v.n, .string v.s, .slice Bl v.l.length dl, .slice Bo v.o.length do_] := by rw [← hW]; exact (Blk.new _ _ _).alloc _
 have hcb : Blk W (w.heap.size + 1) TCMP (cpCells c (.slice Ap c.path.length cp) (.slice Al c.v.l.length cl) (.slice Ao c.v.o.length co)) := by
  have := Blk.new (w.alloc (.cells #[U8 v.kind, .int .i64 v.n, .string v.s, .slice Bl v.l.length dl, .slice Bo v.o.length do_] TVAL)) TCMP (cpCells c (.slice Ap c.path.length cp) (.slice Al c.v.l.length cl) (.slice Ao c.v.o.length co))
  rw [World.size_alloc, hW] at this
  exact this
 have HV := hid (show VAt W S (.agg #[U8 v.kind, .int .i64 v.n, .string v.s, .slice Bl v.l.length dl, .slice Bo v.o.length do_]) v from ⟨_, _, rfl, k1.ext EVal.ok hE, k2.ext EField.ok hE⟩)
 have HCC := hid (show CAt W S2 (.agg (cpCells c (.slice Ap c.path.length cp) (.slice Al c.v.l.length cl) (.slice Ao c.v.o.length co))) c from ⟨_, _, _, rfl, h1.ext ESt.ok hE, h2.ext EVal.ok hE, h3.ext EField.ok hE⟩)
 have HP := hid (h1.ext ESt.ok hE)
 have HE := hid hE
 have HCB := hid hcb
 have HB := hid hb
 have HX := hid (hw.ext hE)
 have HVA := hid hva
 have HS := hid hs
 have HG := hid hg
 have HK := hid hk
 obtain ⟨y0, y1, y2, y3, y4⟩ := blk5 hb
 obtain ⟨x0, x1, x2, x3, x4, x5, x6, x7, x8, x9, x10, x11⟩ := sq12 hcb
 clear h1 h2 h3 k1 k2 hE hb hcb hw hva hs hg hk
 go_enter Tryd.func46, Tryd.ntmps46
 go_wp2_with fail
 refine (rsound6_ok _ HVA.out W HX.out _ _ c HCC.out HS.out).mono ?_
 rintro e W2 ⟨rfl, hE2⟩
 have hcb := HCB.out.keep hE2 id
 have hb := HB.out.keep hE2 id
 have HE2 := hid (HE.out.ext hE2)
 have HX2 := hid (HX.out.ext hE2)
 have HV2 := hid (HV.out.ext hE2)
 have HC2 := hid (HCC.out.ext hE2)
 have HP2 := hid (HP.out.ext ESt.ok hE2)
 have HCB2 := hid hcb
 clear hE2 hW HV HCC HP HE HX HCB HB y0 y1 y2 y3 y4 x0 x1 x2 x3 x4 x5 x6 x7 x8 x9 x10 x11
 obtain ⟨y0, y1, y2, y3, y4⟩ := blk5 hb
 obtain ⟨x0, x1, x2, x3, x4, x5, x6, x7, x8, x9, x10, x11⟩ := sq12 hcb
 clear hb hcb
 go_wp2_with fail
 refine (rget_new W2 _ _ v c.path _ _ HV2.out HP2.out hsz).mono ?_
 intro e W3 hget
 unfold RGetN at hget
 rw [HG.out] at hget
 obtain ⟨⟨ux, rfl, lq, oq, rfl, q1, q2⟩, hE3⟩ := hget
 obtain ⟨Cl, el, rfl, _⟩ := q1.shape
 obtain ⟨Co, eo, rfl, _⟩ := q2.shape
 have hA : Ext W3 (W3.alloc (.cells #[U8 x.kind, .int .i64 x.n, .string x.s, .slice Cl x.l.length el, .slice Co x.o.length eo] TVAL)) := (Keep.refl _ _).alloc _
 have hxb := Blk.new W3 TVAL #[U8 x.kind, .int .i64 x.n, .string x.s, .slice Cl x.l.length el, .slice Co x.o.length eo]
 have HXV := hid (show VAt (W3.alloc (.cells #[U8 x.kind, .int .i64 x.n, .string x.s, .slice Cl x.l.length el, .slice Co x.o.length eo] TVAL)) (fun _ => True) (.agg #[U8 x.kind, .int .i64 x.n, .string x.s, .slice Cl x.l.length el, .slice Co x.o.length eo]) x from ⟨_, _, rfl, (q1.more (S' := fun _ => True) EVal.ok fun _ _ _ => trivial).ext EVal.ok hA, (q2.more (S' := fun _ => True) EField.ok fun _ _ _ => trivial).ext EField.ok hA⟩)
 have HE3 := hid (HE2.out.ext (hE3.ext hA))
 have HX3 := hid (HX2.out.ext (hE3.ext hA))
 have HC3 := hid (HC2.out.ext (hE3.ext hA))
 have hcb := HCB2.out.keep (hE3.ext hA) id
 clear q1 q2 hE3 hA HV2 HC2 HP2 HE2 HX2 y0 y1 y2 y3 y4 x0 x1 x2 x3 x4 x5 x6 x7 x8 x9 x10 x11
 obtain ⟨y0, y1, y2, y3, y4⟩ := blk5 hxb
 obtain ⟨x0, x1, x2, x3, x4, x5, x6, x7, x8, x9, x10, x11⟩ := sq12 hcb
 clear hxb hcb
 go_wp2_with fail
 generalize W3.alloc (.cells #[U8 x.kind, .int .i64 x.n, .string x.s, .slice Cl x.l.length el, .slice Co x.o.length eo] TVAL) = W4 at *
 refine (HK.out W4 _ _ _ _ HX3.out HXV.out HC3.out).mono ?_
 rintro e W5 ⟨rfl, hE5⟩
 go_wp2
 go_ret
 exact ⟨rfl, HE3.out.ext hE5⟩
end Go.Proofs.YtioplgfopillnaaDoor
