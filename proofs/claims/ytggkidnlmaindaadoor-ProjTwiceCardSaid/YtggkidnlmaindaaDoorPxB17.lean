/- Do6B, RefGetN: laid together. -/
import Derived.Test.YtggkidnlmaindaaDoorPxB16
import Derived.Test.YtggkidnlmaindaaDoorPxB13
set_option linter.unusedSimpArgs false
set_option linter.unusedVariables false
set_option maxHeartbeats 25600000
set_option maxRecDepth 20000
namespace Go.Proofs.YtggkidnlmaindaaDoor
open Go.RowKit
theorem rsound6_ok (w0 : World) (hva : ValAny w0) (w : World) (hw : Ext w0 w) (S : BS) (u : Value) (c : Cp) (h : CAt w S u c) (hs : Snd6 c) :
  Calls Tryd.prog 60 #[u] w fun e w' => e = .returned (.bool true) ∧ Ext w w' := by
 obtain ⟨k, p, key, i, j, n, v, s⟩ := c
 obtain ⟨pv, lv, ov, rfl, h1, h2, h3⟩ := h
 obtain ⟨s1, s2, s3, s4, s5, s6, s7, s8, s9, s10, s11, s12, s13, s14, s15, s16, s17, s18, s19, s20, s21, s22⟩ := hs
 simp only at h1 h2 h3 s1 s2 s3 s4 s5 s6 s7 s8 s9 s10 s11 s12 s13 s14 s15 s16 s17 s18 s19 s20 s21 s22
 obtain ⟨Ap, cp, rfl, hpl, hpm⟩ := h1.shape
 obtain ⟨Al, cl, rfl, _⟩ := h2.shape
 obtain ⟨Ao, co, rfl, _⟩ := h3.shape
 obtain ⟨W, hW⟩ : ∃ W, w.alloc (.cells (cpCells ⟨k, p, key, i, j, n, v, s⟩ (.slice Ap p.length cp) (.slice Al v.l.length cl) (.slice Ao v.o.length co)) TCMP) = W := ⟨_, rfl⟩
 have hE : Ext w W := by rw [← hW]; exact (Keep.refl _ _).alloc _
 have hb : Blk W w.heap.size TCMP (#[U8 k, .slice Ap p.length cp, .string key, .int .i64 i, .int .i64 j, .int .i64 n, U8 v.kind, .int .i64 v.n, .string v.s, .slice Al v.l.length cl, .slice Ao v.o.length co, .string s] : Array Value) := by rw [← hW]; exact Blk.new _ _ _
 have HP := hid (h1.ext ESt.ok hE)
 have HV := hid (show VAt W S (.agg (vC v Al cl Ao co)) v from ⟨_, _, rfl, h2.ext EVal.ok hE, h3.ext EField.ok hE⟩)
 have HE := hid hE
 have HB := hid hb
 have HVA := hid (show ValAny W from fun s hs w' he => hva s hs w' ((hw.ext hE).ext he))
 have hk9 : k = 1 ∨ k = 2 ∨ k = 3 ∨ k = 4 ∨ k = 5 ∨ k = 6 ∨ k = 7 ∨ k = 8 ∨ k = 9 := by
  have : k.toNat = 1 ∨ k.toNat = 2 ∨ k.toNat = 3 ∨ k.toNat = 4 ∨ k.toNat = 5 ∨ k.toNat = 6 ∨ k.toNat = 7 ∨ k.toNat = 8 ∨ k.toNat = 9 := by omega
  rcases this with h | h | h | h | h | h | h | h | h
  ·exact .inl (UInt8.toNat_inj.1 h)
  ·exact .inr (.inl (UInt8.toNat_inj.1 h))
  ·exact .inr (.inr (.inl (UInt8.toNat_inj.1 h)))
  ·exact .inr (.inr (.inr (.inl (UInt8.toNat_inj.1 h))))
  ·exact .inr (.inr (.inr (.inr (.inl (UInt8.toNat_inj.1 h)))))
  ·exact .inr (.inr (.inr (.inr (.inr (.inl (UInt8.toNat_inj.1 h))))))
  ·exact .inr (.inr (.inr (.inr (.inr (.inr (.inl (UInt8.toNat_inj.1 h)))))))
  ·exact .inr (.inr (.inr (.inr (.inr (.inr (.inr (.inl (UInt8.toNat_inj.1 h))))))))
  ·exact .inr (.inr (.inr (.inr (.inr (.inr (.inr (.inr (UInt8.toNat_inj.1 h))))))))
 have S2 := hid s2
 have S9 := hid s9
 have S10 := hid s10
 have S11 := hid s11
 have S12 := hid s12
 have S13 := hid s13
 have S14 := hid s14
 have S15 := hid s15
 have S16 := hid s16
 have S17 := hid s17
 have S18 := hid s18
 have S19 := hid s19
 have S20 := hid s20
 have S21 := hid s21
 have S22 := hid s22
 clear h1 h2 h3 hE hb s1 s2 s9 s10 s11 s12 s13 s14 s15 s16 s17 s18 s19 s20 s21 s22 hpl hpm hva hw
 obtain ⟨tx, htx⟩ : ∃ tx, textOf (saysN k.toNat) = tx := ⟨_, rfl⟩
 have HTX := hid htx
 clear htx
 have hg : (k = 2 ∨ k = 4 ∨ k = 6) ∨ (k = 1 ∨ k = 3 ∨ k = 5 ∨ k = 7 ∨ k = 8 ∨ k = 9) := by rcases hk9 with h | h | h | h | h | h | h | h | h <;> simp [h]
 clear hk9
 rcases hg with hg | hg
 ·rcases hg with rfl | rfl | rfl
  all_goals
   simp (decide := true) only [true_or, false_or] at s3
   try subst s3
   simp (decide := true) only [true_or, false_or] at s4
   try subst s4
   simp (decide := true) only [true_or, false_or] at s5
   try subst s5
   simp (decide := true) only [true_or, false_or] at s6
   try subst s6
   simp (decide := true) only [true_or, false_or] at s7
   try subst s7
   simp (decide := true) only [true_or, false_or] at s8
   try subst s8
   obtain ⟨x0, x1, x2, x3, x4, x5, x6, x7, x8, x9, x10, x11⟩ := sq12 HB.out
   go_enter Tryd.func60, Tryd.ntmps60
   go_wp2_with fail
   refine (says_ok W _ (by decide)).mono ?_
   rintro e _ ⟨rfl, rfl⟩
   rw [HTX.out]
   have hte : tx.toList.isEmpty = false := by rw [← HTX.out, ByteArray.toList_eq]; rfl
   have htz : tx.size ≤ 1000 := by rw [← HTX.out]; decide
   go_wp2_with fail
   refine (rsnd_ok W W HVA.out (Keep.refl _ _) _ _ _ HP.out S22.out).mono ?_
   rintro e w2 ⟨rfl, hE2⟩
   clear hW
   rw [show (decide (p.length ≤ 16) && !p.any badS) = true from by rw [S2.out.2]; simp; exact S2.out.1]
   have HB2 := hid (HB.out.keep hE2 id)
   have HE2 := hid (HE.out.ext hE2)
   have HX2 := hid hE2
   clear hE2 x0 x1 x2 x3 x4 x5 x6 x7 x8 x9 x10 x11
   obtain ⟨x0, x1, x2, x3, x4, x5, x6, x7, x8, x9, x10, x11⟩ := sq12 HB2.out
   go_wp2_with fail
   refine (in6_ok w2 tx 75 htz).mono ?_
   rintro e _ ⟨rfl, rfl⟩
   first | rw [show hasC tx 75 = true from by rw [← HTX.out]; rfl] | rw [show hasC tx 75 = false from by rw [← HTX.out]; rfl]
   go_wp2_with fail
   refine (in6_ok w2 tx 73 htz).mono ?_
   rintro e _ ⟨rfl, rfl⟩
   first | rw [show hasC tx 73 = true from by rw [← HTX.out]; rfl] | rw [show hasC tx 73 = false from by rw [← HTX.out]; rfl]
   go_wp2_with fail
   refine (in6_ok w2 tx 74 htz).mono ?_
   rintro e _ ⟨rfl, rfl⟩
   first | rw [show hasC tx 74 = true from by rw [← HTX.out]; rfl] | rw [show hasC tx 74 = false from by rw [← HTX.out]; rfl]
   go_wp2_with fail
   refine (in6_ok w2 tx 78 htz).mono ?_
   rintro e _ ⟨rfl, rfl⟩
   first | rw [show hasC tx 78 = true from by rw [← HTX.out]; rfl] | rw [show hasC tx 78 = false from by rw [← HTX.out]; rfl]
   go_wp2_with fail
   refine (in6_ok w2 tx 83 htz).mono ?_
   rintro e _ ⟨rfl, rfl⟩
   first | rw [show hasC tx 83 = true from by rw [← HTX.out]; rfl] | rw [show hasC tx 83 = false from by rw [← HTX.out]; rfl]
   go_wp2_with fail
   refine (in6_ok w2 tx 86 htz).mono ?_
   rintro e _ ⟨rfl, rfl⟩
   first | rw [show hasC tx 86 = true from by rw [← HTX.out]; rfl] | rw [show hasC tx 86 = false from by rw [← HTX.out]; rfl]
   go_wp2_with fail
   refine (HVA.out _ (by have := S20.out; omega) w2 HX2.out).mono ?_
   rintro e w3 ⟨rfl, hE3⟩
   rw [S9.out]
   have HB3 := hid (HB2.out.keep hE3 id)
   have HE3 := hid (HE2.out.ext hE3)
   have HX3 := hid (HX2.out.ext hE3)
   clear hE3 x0 x1 x2 x3 x4 x5 x6 x7 x8 x9 x10 x11
   obtain ⟨x0, x1, x2, x3, x4, x5, x6, x7, x8, x9, x10, x11⟩ := sq12 HB3.out
   go_wp2_with fail
   refine (HVA.out _ (by have := S21.out; omega) w3 HX3.out).mono ?_
   rintro e w4 ⟨rfl, hE4⟩
   rw [S10.out]
   have HB4 := hid (HB3.out.keep hE4 id)
   have HE4 := hid (HE3.out.ext hE4)
   have HX4 := hid (HX3.out.ext hE4)
   clear hE4 x0 x1 x2 x3 x4 x5 x6 x7 x8 x9 x10 x11
   obtain ⟨x0, x1, x2, x3, x4, x5, x6, x7, x8, x9, x10, x11⟩ := sq12 HB4.out
   try have hi0 : ¬ i < 0 := by have := S11.out; omega
   try have hj0 : ¬ j < 0 := by have := S12.out; omega
   try have hse : s.toList.isEmpty = false := by have := S13.out rfl; rw [ByteArray.toList_eq]; exact this
   try have hn1 : ¬ n < 1 := by have := S14.out rfl; omega
   go_wp2_with fail
   have h16 : (p.length : Int) + 1 + ((v : V).deep : Int) ≤ 16 := by have := S16.out; omega
   have h20 : ((v : V).weight : Int) ≤ 20000 := by have := S17.out; omega
   have hp16 : (p.length : Int) ≤ 16 := by have := S2.out.1; omega
   have hd16 : ((v : V).deep : Int) ≤ 16 := by omega
   have hww : wrap64 ((v : V).weight : Int) = ((v : V).weight : Int) := by unfold wrap64; omega
   have HWW := hid hww
   clear hww
   have HSN := hid (fun w' (he : Ext w4 w') => rsound_any w' (fun s hs w'' h => HVA.out s hs w'' ((HX4.out.ext he).ext h)) _ v (Nat.le_refl _) S18.out _ _ w' (Keep.refl _ _) (HV.out.ext (HX4.out.ext he)))
   have HDP := hid (fun w' (he : Ext w4 w') => rdeep_any _ v (Nat.le_refl _) S19.out _ _ w' (HV.out.ext (HX4.out.ext he)))
   have HWT := hid (fun w' (he : Ext w4 w') => rweight_any _ v (Nat.le_refl _) _ _ w' (HV.out.ext (HX4.out.ext he)))
   generalize hdp : (v : V).deep = dp at *
   generalize hwt : (v : V).weight = wt at *
   clear hdp hwt
   have hw1 : IntKind.i64.wrap ((p.length : Int) + 1) = (p.length : Int) + 1 := by rw [IntKind.wrap_i64]; omega
   have hw2 : IntKind.i64.wrap ((p.length : Int) + 1 + (dp : Int)) = (p.length : Int) + 1 + (dp : Int) := by rw [IntKind.wrap_i64]; omega
   refine wp_region_grow (specOf [(2, fun u w' => u = .bool true), (10, fun u w' => u = .int .i64 (dp : Int)), (17, fun u w' => u = .int .i64 (wt : Int))]) (fun w' => Ext w4 w') (stable_cons (fun v w w' h he => h) (stable_cons (fun v w w' h he => h) (stable_cons (fun v w w' h he => h) stable_nil))) (stableC_ext _) (by kernel_rfl) (by kernel_rfl) (Keep.drew (Keep.refl _ _)) ?_
   iterate 2
    (try simp only [Act.put, sqa, sqb, sqc])
    refine grow_run rfl rfl rfl ?_
    apply Exists.intro
    refine ⟨fun w' hC hK => ?_, ?_⟩
    ·have x6 := sqw hC x6
     have x7 := sqw hC x7
     have x8 := sqw hC x8
     have x9 := sqw hC x9
     have x10 := sqw hC x10
     go_simp
     rfl
   (try simp only [Act.put, sqa, sqb, sqc])
   refine grow_eff rfl rfl rfl (fun w' hC hK => ?_) (fun v2 hv2 => ?_)
   ·unfold growAt
    go_simp
    refine grow_call ((HSN.out w' hC).mono ?_)
    rintro e w'' ⟨rfl, h2⟩
    rw [S15.out]
    exact ⟨_, rfl, h2, rfl⟩
   obtain ⟨_, _, rfl⟩ := hv2.head
   iterate 7
    (try simp only [Act.put, sqa, sqb, sqc])
    refine grow_run rfl rfl rfl ?_
    apply Exists.intro
    refine ⟨fun w' hC hK => ?_, ?_⟩
    ·have x1 := sqw hC x1
     have x6 := sqw hC x6
     have x7 := sqw hC x7
     have x8 := sqw hC x8
     have x9 := sqw hC x9
     have x10 := sqw hC x10
     go_simp
     rfl
   (try simp only [Act.put, sqa, sqb, sqc])
   refine grow_eff rfl rfl rfl (fun w' hC hK => ?_) (fun v10 hv10 => ?_)
   ·unfold growAt
    go_simp
    refine grow_call ((HDP.out w' hC).mono ?_)
    rintro e w'' ⟨rfl, h2⟩
    exact ⟨_, rfl, h2, rfl⟩
   obtain ⟨_, _, rfl⟩ := hv10.head
   iterate 6
    (try simp only [Act.put, sqa, sqb, sqc])
    refine grow_run rfl rfl rfl ?_
    apply Exists.intro
    refine ⟨fun w' hC hK => ?_, ?_⟩
    ·have x6 := sqw hC x6
     have x7 := sqw hC x7
     have x8 := sqw hC x8
     have x9 := sqw hC x9
     have x10 := sqw hC x10
     go_simp
     rfl
   (try simp only [Act.put, sqa, sqb, sqc])
   refine grow_eff rfl rfl rfl (fun w' hC hK => ?_) (fun v17 hv17 => ?_)
   ·unfold growAt
    go_simp
    refine grow_call ((HWT.out w' hC).mono ?_)
    rintro e w'' ⟨rfl, h2⟩
    rw [HWW.out]
    exact ⟨_, rfl, h2, rfl⟩
   obtain ⟨_, _, rfl⟩ := hv17.head
   iterate 3
    (try simp only [Act.put, sqa, sqb, sqc])
    refine grow_run rfl rfl rfl ?_
    apply Exists.intro
    refine ⟨fun w' hC hK => ?_, ?_⟩
    ·go_simp
     rfl
   refine grow_nil fun wz hC hK => ?_
   have HC := hid (show Ext w4 wz from hC)
   clear hC hK
   go_wp2
   go_ret
   exact ⟨rfl, HE4.out.ext HC.out⟩
 ·rcases hg with rfl | rfl | rfl | rfl | rfl | rfl
  all_goals
   simp (decide := true) only [true_or, false_or] at s3
   try subst s3
   simp (decide := true) only [true_or, false_or] at s4
   try subst s4
   simp (decide := true) only [true_or, false_or] at s5
   try subst s5
   simp (decide := true) only [true_or, false_or] at s6
   try subst s6
   simp (decide := true) only [true_or, false_or] at s7
   try subst s7
   simp (decide := true) only [true_or, false_or] at s8
   try subst s8
   obtain ⟨x0, x1, x2, x3, x4, x5, x6, x7, x8, x9, x10, x11⟩ := sq12 HB.out
   go_enter Tryd.func60, Tryd.ntmps60
   go_wp2_with fail
   refine (says_ok W _ (by decide)).mono ?_
   rintro e _ ⟨rfl, rfl⟩
   rw [HTX.out]
   have hte : tx.toList.isEmpty = false := by rw [← HTX.out, ByteArray.toList_eq]; rfl
   have htz : tx.size ≤ 1000 := by rw [← HTX.out]; decide
   go_wp2_with fail
   refine (rsnd_ok W W HVA.out (Keep.refl _ _) _ _ _ HP.out S22.out).mono ?_
   rintro e w2 ⟨rfl, hE2⟩
   clear hW
   rw [show (decide (p.length ≤ 16) && !p.any badS) = true from by rw [S2.out.2]; simp; exact S2.out.1]
   have HB2 := hid (HB.out.keep hE2 id)
   have HE2 := hid (HE.out.ext hE2)
   have HX2 := hid hE2
   clear hE2 x0 x1 x2 x3 x4 x5 x6 x7 x8 x9 x10 x11
   obtain ⟨x0, x1, x2, x3, x4, x5, x6, x7, x8, x9, x10, x11⟩ := sq12 HB2.out
   go_wp2_with fail
   refine (in6_ok w2 tx 75 htz).mono ?_
   rintro e _ ⟨rfl, rfl⟩
   first | rw [show hasC tx 75 = true from by rw [← HTX.out]; rfl] | rw [show hasC tx 75 = false from by rw [← HTX.out]; rfl]
   go_wp2_with fail
   refine (in6_ok w2 tx 73 htz).mono ?_
   rintro e _ ⟨rfl, rfl⟩
   first | rw [show hasC tx 73 = true from by rw [← HTX.out]; rfl] | rw [show hasC tx 73 = false from by rw [← HTX.out]; rfl]
   go_wp2_with fail
   refine (in6_ok w2 tx 74 htz).mono ?_
   rintro e _ ⟨rfl, rfl⟩
   first | rw [show hasC tx 74 = true from by rw [← HTX.out]; rfl] | rw [show hasC tx 74 = false from by rw [← HTX.out]; rfl]
   go_wp2_with fail
   refine (in6_ok w2 tx 78 htz).mono ?_
   rintro e _ ⟨rfl, rfl⟩
   first | rw [show hasC tx 78 = true from by rw [← HTX.out]; rfl] | rw [show hasC tx 78 = false from by rw [← HTX.out]; rfl]
   go_wp2_with fail
   refine (in6_ok w2 tx 83 htz).mono ?_
   rintro e _ ⟨rfl, rfl⟩
   first | rw [show hasC tx 83 = true from by rw [← HTX.out]; rfl] | rw [show hasC tx 83 = false from by rw [← HTX.out]; rfl]
   go_wp2_with fail
   refine (in6_ok w2 tx 86 htz).mono ?_
   rintro e _ ⟨rfl, rfl⟩
   first | rw [show hasC tx 86 = true from by rw [← HTX.out]; rfl] | rw [show hasC tx 86 = false from by rw [← HTX.out]; rfl]
   go_wp2_with fail
   refine (same_eq _ (.mk 0 0 ⟨#[]⟩ [] []) (Nat.le_refl _) _ _ _ _ w2 (HV.out.ext HX2.out) ⟨_, _, rfl, Sl.nil _ (fun _ => True), Sl.nil _ _⟩).mono ?_
   rintro e w3 ⟨rfl, hE3⟩
   have HB3 := hid (HB2.out.keep hE3 id)
   have HE3 := hid (HE2.out.ext hE3)
   have HX3 := hid (HX2.out.ext hE3)
   clear hE3 x0 x1 x2 x3 x4 x5 x6 x7 x8 x9 x10 x11
   obtain ⟨x0, x1, x2, x3, x4, x5, x6, x7, x8, x9, x10, x11⟩ := sq12 HB3.out
   go_wp2_with fail
   refine (HVA.out _ (by have := S20.out; omega) w3 HX3.out).mono ?_
   rintro e w4 ⟨rfl, hE4⟩
   rw [S9.out]
   have HB4 := hid (HB3.out.keep hE4 id)
   have HE4 := hid (HE3.out.ext hE4)
   have HX4 := hid (HX3.out.ext hE4)
   clear hE4 x0 x1 x2 x3 x4 x5 x6 x7 x8 x9 x10 x11
   obtain ⟨x0, x1, x2, x3, x4, x5, x6, x7, x8, x9, x10, x11⟩ := sq12 HB4.out
   go_wp2_with fail
   refine (HVA.out _ (by have := S21.out; omega) w4 HX4.out).mono ?_
   rintro e w5 ⟨rfl, hE5⟩
   rw [S10.out]
   have HB5 := hid (HB4.out.keep hE5 id)
   have HE5 := hid (HE4.out.ext hE5)
   have HX5 := hid (HX4.out.ext hE5)
   clear hE5 x0 x1 x2 x3 x4 x5 x6 x7 x8 x9 x10 x11
   obtain ⟨x0, x1, x2, x3, x4, x5, x6, x7, x8, x9, x10, x11⟩ := sq12 HB5.out
   try have hi0 : ¬ i < 0 := by have := S11.out; omega
   try have hj0 : ¬ j < 0 := by have := S12.out; omega
   try have hse : s.toList.isEmpty = false := by have := S13.out rfl; rw [ByteArray.toList_eq]; exact this
   try have hn1 : ¬ n < 1 := by have := S14.out rfl; omega
   go_wp2_with fail
   have h16 : (p.length : Int) + 1 + (((.mk 0 0 ⟨#[]⟩ [] []) : V).deep : Int) ≤ 16 := by have := S16.out; omega
   have h20 : (((.mk 0 0 ⟨#[]⟩ [] []) : V).weight : Int) ≤ 20000 := by have := S17.out; omega
   have hp16 : (p.length : Int) ≤ 16 := by have := S2.out.1; omega
   have hd16 : (((.mk 0 0 ⟨#[]⟩ [] []) : V).deep : Int) ≤ 16 := by omega
   have hww : wrap64 (((.mk 0 0 ⟨#[]⟩ [] []) : V).weight : Int) = (((.mk 0 0 ⟨#[]⟩ [] []) : V).weight : Int) := by unfold wrap64; omega
   have HWW := hid hww
   clear hww
   have HSN := hid (fun w' (he : Ext w5 w') => rsound_any w' (fun s hs w'' h => HVA.out s hs w'' ((HX5.out.ext he).ext h)) _ (.mk 0 0 ⟨#[]⟩ [] []) (Nat.le_refl _) S18.out _ _ w' (Keep.refl _ _) (HV.out.ext (HX5.out.ext he)))
   have HDP := hid (fun w' (he : Ext w5 w') => rdeep_any _ (.mk 0 0 ⟨#[]⟩ [] []) (Nat.le_refl _) S19.out _ _ w' (HV.out.ext (HX5.out.ext he)))
   have HWT := hid (fun w' (he : Ext w5 w') => rweight_any _ (.mk 0 0 ⟨#[]⟩ [] []) (Nat.le_refl _) _ _ w' (HV.out.ext (HX5.out.ext he)))
   generalize hdp : ((.mk 0 0 ⟨#[]⟩ [] []) : V).deep = dp at *
   generalize hwt : ((.mk 0 0 ⟨#[]⟩ [] []) : V).weight = wt at *
   clear hdp hwt
   have hw1 : IntKind.i64.wrap ((p.length : Int) + 1) = (p.length : Int) + 1 := by rw [IntKind.wrap_i64]; omega
   have hw2 : IntKind.i64.wrap ((p.length : Int) + 1 + (dp : Int)) = (p.length : Int) + 1 + (dp : Int) := by rw [IntKind.wrap_i64]; omega
   refine wp_region_grow (specOf [(2, fun u w' => u = .bool true), (10, fun u w' => u = .int .i64 (dp : Int)), (17, fun u w' => u = .int .i64 (wt : Int))]) (fun w' => Ext w5 w') (stable_cons (fun v w w' h he => h) (stable_cons (fun v w w' h he => h) (stable_cons (fun v w w' h he => h) stable_nil))) (stableC_ext _) (by kernel_rfl) (by kernel_rfl) (Keep.drew (Keep.refl _ _)) ?_
   iterate 2
    (try simp only [Act.put, sqa, sqb, sqc])
    refine grow_run rfl rfl rfl ?_
    apply Exists.intro
    refine ⟨fun w' hC hK => ?_, ?_⟩
    ·have x6 := sqw hC x6
     have x7 := sqw hC x7
     have x8 := sqw hC x8
     have x9 := sqw hC x9
     have x10 := sqw hC x10
     go_simp
     rfl
   (try simp only [Act.put, sqa, sqb, sqc])
   refine grow_eff rfl rfl rfl (fun w' hC hK => ?_) (fun v2 hv2 => ?_)
   ·unfold growAt
    go_simp
    refine grow_call ((HSN.out w' hC).mono ?_)
    rintro e w'' ⟨rfl, h2⟩
    rw [S15.out]
    exact ⟨_, rfl, h2, rfl⟩
   obtain ⟨_, _, rfl⟩ := hv2.head
   iterate 7
    (try simp only [Act.put, sqa, sqb, sqc])
    refine grow_run rfl rfl rfl ?_
    apply Exists.intro
    refine ⟨fun w' hC hK => ?_, ?_⟩
    ·have x1 := sqw hC x1
     have x6 := sqw hC x6
     have x7 := sqw hC x7
     have x8 := sqw hC x8
     have x9 := sqw hC x9
     have x10 := sqw hC x10
     go_simp
     rfl
   (try simp only [Act.put, sqa, sqb, sqc])
   refine grow_eff rfl rfl rfl (fun w' hC hK => ?_) (fun v10 hv10 => ?_)
   ·unfold growAt
    go_simp
    refine grow_call ((HDP.out w' hC).mono ?_)
    rintro e w'' ⟨rfl, h2⟩
    exact ⟨_, rfl, h2, rfl⟩
   obtain ⟨_, _, rfl⟩ := hv10.head
   iterate 6
    (try simp only [Act.put, sqa, sqb, sqc])
    refine grow_run rfl rfl rfl ?_
    apply Exists.intro
    refine ⟨fun w' hC hK => ?_, ?_⟩
    ·have x6 := sqw hC x6
     have x7 := sqw hC x7
     have x8 := sqw hC x8
     have x9 := sqw hC x9
     have x10 := sqw hC x10
     go_simp
     rfl
   (try simp only [Act.put, sqa, sqb, sqc])
   refine grow_eff rfl rfl rfl (fun w' hC hK => ?_) (fun v17 hv17 => ?_)
   ·unfold growAt
    go_simp
    refine grow_call ((HWT.out w' hC).mono ?_)
    rintro e w'' ⟨rfl, h2⟩
    rw [HWW.out]
    exact ⟨_, rfl, h2, rfl⟩
   obtain ⟨_, _, rfl⟩ := hv17.head
   iterate 3
    (try simp only [Act.put, sqa, sqb, sqc])
    refine grow_run rfl rfl rfl ?_
    apply Exists.intro
    refine ⟨fun w' hC hK => ?_, ?_⟩
    ·go_simp
     rfl
   refine grow_nil fun wz hC hK => ?_
   have HC := hid (show Ext w5 wz from hC)
   clear hC hK
   go_wp2
   go_ret
   exact ⟨rfl, HE5.out.ext HC.out⟩
def RGetN (v : V) (p : List St) (w : World) (e : Ending) (w' : World) : Prop := (match getV v p with
 | none => e = .returned (.tuple #[ZVAL, .int .i64 30])
 | some y => ∃ u, e = .returned (.tuple #[u, .int .i64 0]) ∧ VAt w' (fun q => w.heap.size ≤ q) u y) ∧ Ext w w'
theorem rget_new (w : World) (u pv : Value) (v : V) (p : List St) (S S' : BS) (hu : VAt w S u v) (hp : Sl ESt w S' pv p) (hsz : v.size ≤ 1000000) :
  Calls Tryd.prog 66 #[u, pv] w (RGetN v p w) := by
 obtain ⟨lv, ov, rfl, hl, ho⟩ := hu.cut
 obtain ⟨A, c, rfl, _, _⟩ := hl.shape
 obtain ⟨A', c', rfl, _, _⟩ := ho.shape
 obtain ⟨Ap, cp, rfl, hpl, hpm⟩ := hp.shape
 unfold maxLen at hpm
 obtain ⟨w1, hw1⟩ : ∃ w1, w1 = w.alloc (.cells (vC v A c A' c') TVAL) := ⟨_, rfl⟩
 obtain ⟨w3, hw3⟩ : ∃ w3, w3 = w1.alloc (.cells #[.int .u8 0, .int .i64 0, .string ⟨#[]⟩, .slice none 0 0, .slice none 0 0] TVAL) := ⟨_, rfl⟩
 have hz1 : w1.heap.size = w.heap.size + 1 := by rw [hw1]; simp
 have hE1 : Ext w w1 := by rw [hw1]; exact (Keep.refl _ _).alloc _
 have hE3 : Ext w1 w3 := by rw [hw3]; exact (Keep.refl _ _).alloc _
 have hb1 : Blk w3 w.heap.size TVAL (vC v A c A' c') := by
  have := Blk.new w TVAL (vC v A c A' c')
  rw [← hw1] at this
  exact this.keep hE3 id
 have hb3 : Blk w3 (w.heap.size + 1) TVAL #[.int .u8 0, .int .i64 0, .string ⟨#[]⟩, .slice none 0 0, .slice none 0 0] := by
  have := Blk.new w1 TVAL #[.int .u8 0, .int .i64 0, .string ⟨#[]⟩, .slice none 0 0, .slice none 0 0]
  rwa [← hw3, hz1] at this
 have hE : Ext w w3 := hE1.ext hE3
 have HE := hid hE
 have HB1 := hid hb1
 have HB3 := hid hb3
 have HV := hid (show VAt w3 (fun q => q < w.heap.size) (.agg (vC v A c A' c')) v from (VAt.ext ⟨_, _, rfl, hl, ho⟩ hE).more fun q _ h => h.2)
 have HP := hid ((hp.more ESt.ok (S' := fun q => q < w.heap.size) (fun q h _ => h)).ext ESt.ok hE)
 have HSZ := hid hsz
 have e3 : w3 = (w.alloc (.cells (vC v A c A' c') TVAL)).alloc (.cells #[.int .u8 0, .int .i64 0, .string ⟨#[]⟩, .slice none 0 0, .slice none 0 0] TVAL) := by rw [hw3, hw1]
 have hz3 : w.heap.size + 1 < w3.heap.size := hb3.lt
 clear hw1 hw3 hE1 hE3 hb1 hb3 hz1 hE hl ho hp hsz hu w1
 go_enter Tryd.func66, Tryd.ntmps66
 go_wp2_with fail
 rw [← e3]
 clear e3
 go_loopw [6, 7, 8, 9] (fun i _ _ _ wr => ∃ (j : Nat) (y : V) (lv ov : Value), i = .int .i64 j ∧ j ≤ p.length ∧ getV v (p.take j) = some y ∧ Blk wr w.heap.size TVAL #[U8 y.kind, .int .i64 y.n, .string y.s, lv, ov] ∧
  VAt wr (fun q => q < w.heap.size) (.agg #[U8 y.kind, .int .i64 y.n, .string y.s, lv, ov]) y ∧ Keep (· = w.heap.size) w3 wr) (fun i _ _ _ _ => p.length - (intOf i).toNat)
 case atStart => exact ⟨0, v, _, _, rfl, by omega, rfl, HB1.out, HV.out, Keep.refl _ _⟩
 case round =>
  obtain ⟨j, y, lv, ov, rfl, hj, hg, hb, hva, hkr⟩ := hrel
  obtain ⟨lv', ov', e, hxl, hxo⟩ := hva
  obtain ⟨e1, e2⟩ : lv = lv' ∧ ov = ov' := by simp at e; exact e
  subst e1 e2
  clear e
  obtain ⟨A2, c2, rfl, h2l, h2m⟩ := hxl.shape
  obtain ⟨A3, c3, rfl, h3l, h3m⟩ := hxo.shape
  have HY := hid (show VAt wr (fun q => q < w.heap.size) (.agg (vC y A2 c2 A3 c3)) y from ⟨_, _, rfl, hxl, hxo⟩)
  have HG := hid hg
  have HK := hid hkr
  have HBY := hid hb
  have hkz := hkr.size
  have HBR := hid (HB3.out.keep hkr (by omega))
  have HPr := hid (HP.out.keep ESt.ok hkr fun q hq e => by omega)
  obtain ⟨q0, q1, q2, q3, q4⟩ := blk5 hb
  clear hxl hxo hg hkr hb
  by_cases hlt : j < p.length
  ·have hltX : (j : Int) < p.length := by omega
   obtain ⟨bp, op, cs, rfl, _, _, hrd, hcell⟩ := HPr.out.at_ ESt.ok hlt
   obtain ⟨z, idx, err, hcall, hst⟩ := step_o y p[j]
   have HN := hid (fun h => hst.none hlt HG.out h)
   have HSO := hid (fun h => hst.some hlt HG.out h)
   have HCALL := hid hcall
   generalize p[j] = s at *
   obtain rfl : cs = [.bool s.list, .int .i64 s.i, .string s.key] := hrd
   have s0 := hcell 0 _ rfl
   have s1 := hcell 1 _ rfl
   have s2 := hcell 2 _ rfl
   have hz : ESt.size = 3 := rfl
   simp only [hz, Nat.add_zero] at s0 s1 s2
   clear hz hcell hcall hst
   go_wp2_with fail
   refine H.wp_region_frees [8, 9] [1, 2, 3] [0, 4, 5, 6, 7, 8, 9, 10] [11] [12, 13]
    (H.specOf [(5, StepO (fun q => q < w.heap.size) z idx err), (10, BoxQ wr.heap.size)])
    (fun w' => Ext wr w') ?_ (H.stableC_ext _) (by kernel_rfl) (by intro k hk; simp at hk; rcases hk with rfl | rfl <;> rfl) (by kernel_rfl) (Keep.drew (Keep.refl _ _)) ?_
   ·exact H.stable_cons (fun n m v w w' h he => h.ext he) (H.stable_cons (fun n m v w w' h he => h.ext he) H.stable_nil)
   iterate 3
    (try simp only [Act.put, sqa, sqb, sqc])
    refine H.pure_run rfl rfl ?_
    apply Exists.intro
    refine ⟨fun w' => ?_, ?_⟩
    ·go_simp
     rfl
   refine H.pure_nil ?_
   iterate 2
    (try simp only [Act.put, sqa, sqb, sqc])
    refine H.growP_run rfl rfl rfl ?_
    apply Exists.intro
    refine ⟨fun w' hC hK => ?_, ?_⟩
    ·have q0 := sqw hC q0
     have q1 := sqw hC q1
     have q2 := sqw hC q2
     have q3 := sqw hC q3
     have q4 := sqw hC q4
     have s0 := sqw hC s0
     have s1 := sqw hC s1
     have s2 := sqw hC s2
     go_simp
     rfl
   (try simp only [Act.put, sqa, sqb, sqc])
   refine H.growP_eff rfl rfl rfl (fun w' hC hK => ?_) (fun v5 nv5 mv5 hv5 => ?_)
   ·have hcall := HCALL.out w' _ _ (HY.out.ext hC)
    unfold H.growAt
    go_simp
    exact H.grow_call hcall
   obtain ⟨_, _, Az1, cz1, Az2, cz2, rfl, _⟩ := hv5.head
   iterate 4
    (try simp only [Act.put, sqa, sqb, sqc])
    refine H.growP_run rfl rfl rfl ?_
    apply Exists.intro
    refine ⟨fun w' hC hK => ?_, ?_⟩
    ·go_simp
     rfl
   (try simp only [Act.put, sqa, sqb, sqc])
   refine H.growP_eff rfl rfl rfl (fun w' hC hK => ?_) (fun v10 nv10 mv10 hv10 => ?_)
   ·unfold H.growAt
    go_simp
    exact ⟨(Keep.refl _ _).alloc _, hC.size, rfl, by simp, Blk.new _ _ _⟩
   obtain ⟨_, _, hn, rfl, hnm, _⟩ := hv10.head
   refine H.growP_nil fun w7 hC hK => ?_
   have hbox : BoxQ wr.heap.size nv10 mv10 (.pointer (some ⟨nv10, 0, none⟩)) w7 := (hK.1 (10, _) List.mem_cons_self).1
   have hout : StepO (fun q => q < w.heap.size) z idx err nv5 mv5 (.tuple #[.agg (vC z Az1 cz1 Az2 cz2), .int .i64 idx, .int .i64 err]) w7 := (hK.1 (5, _) (List.mem_cons_of_mem _ List.mem_cons_self)).1
   obtain ⟨bq0, bq1, bq2, bq3, bq4⟩ := blk5 hbox.2.2.2
   obtain ⟨bf0, bf1, bf2, bf3, bf4⟩ := sqf5 hbox.2.2.2
   have HF := hid (StepO.fill (fun q (hq : q < w.heap.size) => by omega) hC hbox hout)
   clear hbox hout hK hn hnm q0 q1 q2 q3 q4 s0 s1 s2 hv5 hv10 hC
   change wpList _ _ _ (_ :: []) _ _
   (try simp only [Act.put, sqa, sqb, sqc])
   go_wp2_with fail
   refine H.Then.normal ?_
   iterate 2
    (try simp only [Act.put, sqa, sqb, sqc])
    refine H.pure_run rfl rfl ?_
    apply Exists.intro
    refine ⟨fun w' => ?_, ?_⟩
    ·go_simp
     rfl
   refine H.pure_nil ?_
   refine NoPanic.normal ?_
   (try simp only [Act.put, sqa, sqb, sqc])
   obtain ⟨hE8, hB8, hV8⟩ := HF.out
   clear HF bq0 bq1 bq2 bq3 bq4 bf0 bf1 bf2 bf3 bf4
   change Exit.then _ _ Exit.normal _ (fillW w7 nv10 (U8 z.kind) (.int .i64 z.n) (.string z.s) (.slice Az1 z.l.length cz1) (.slice Az2 z.o.length cz2))
   generalize fillW w7 nv10 (U8 z.kind) (.int .i64 z.n) (.string z.s) (.slice Az1 z.l.length cz1) (.slice Az2 z.o.length cz2) = w8 at *
   have HE8 := hid (HK.out.trans hE8 fun q _ h => h.elim)
   have HB8 := hid hB8
   have HV8 := hid hV8
   have hby := HBY.out.keep hE8 id
   have hbr := HBR.out.keep hE8 id
   clear hE8 hB8 hV8
   by_cases herr : err = 0
   ·have HD := hid (HSO.out herr)
    have herrX : (err != 0) = false := by simp [herr]
    clear herr
    obtain ⟨q0, q1, q2, q3, q4⟩ := blk5 hby
    obtain ⟨f0, f1, f2, f3, f4⟩ := sqf5 hby
    obtain ⟨z0, z1, z2, z3, z4⟩ := blk5 HB8.out
    have hk := set5_keep w8 w.heap.size 0 (U8 z.kind) (.int .i64 z.n) (.string z.s) (.slice Az1 z.l.length cz1) (.slice Az2 z.o.length cz2)
    have HR := hid (And.intro (show Blk (fillW w8 w.heap.size (U8 z.kind) (.int .i64 z.n) (.string z.s) (.slice Az1 z.l.length cz1) (.slice Az2 z.o.length cz2)) w.heap.size TVAL (vC z Az1 cz1 Az2 cz2) from set5_to hby rfl _ _ _ _ _)
     (And.intro (show VAt (fillW w8 w.heap.size (U8 z.kind) (.int .i64 z.n) (.string z.s) (.slice Az1 z.l.length cz1) (.slice Az2 z.o.length cz2)) (fun q => q < w.heap.size) (.agg (vC z Az1 cz1 Az2 cz2)) z from HV8.out.keep hk fun q hq e => by omega)
      (show Keep (· = w.heap.size) w3 (fillW w8 w.heap.size (U8 z.kind) (.int .i64 z.n) (.string z.s) (.slice Az1 z.l.length cz1) (.slice Az2 z.o.length cz2)) from HE8.out.trans hk fun q _ h => h)))
    clear hby hbr hk
    go_wp2
    go_roundw
    case rel => exact ⟨j + 1, z, _, _, by go_num, by omega, HD.out, HR.out⟩
    case measure => simp [intOf]; omega
   ·have HD := hid (HN.out herr)
    have herrX : (err != 0) = true := by simpa using herr
    clear herr
    obtain ⟨r0, r1, r2, r3, r4⟩ := blk5 hbr
    obtain ⟨f0, f1, f2, f3, f4⟩ := sqf5 hbr
    have HT := hid (ret5 (HE.out.trans HE8.out fun q hq e => by omega) (by omega) hbr (.int .u8 0) (.int .i64 0) (.string ⟨#[]⟩) (.slice none 0 0) (.slice none 0 0))
    clear hby hbr
    go_wp2
    obtain ⟨hE5, t0, t1, t2, t3, t4⟩ := HT.out
    change bodyPost _ _ _ _ _ (fillW w8 (w.heap.size + 1) (.int .u8 0) (.int .i64 0) (.string ⟨#[]⟩) (.slice none 0 0) (.slice none 0 0))
    generalize fillW w8 (w.heap.size + 1) (.int .u8 0) (.int .i64 0) (.string ⟨#[]⟩) (.slice none 0 0) (.slice none 0 0) = w9 at *
    refine bodyPost_ret (v := .tuple #[ZVAL, .int .i64 err]) (by simp [results, Tryd.results66, go_sem, t0, t1, t2, t3, t4]) rfl ?_
    obtain ⟨hd1, hd2⟩ := HD.out
    unfold RGetN
    rw [hd1, hd2]
    exact ⟨rfl, hE5⟩
  ·obtain rfl : j = p.length := by omega
   have HGF := hid (show getV v p = some y from by have := HG.out; rwa [List.take_length] at this)
   have hys : y.size ≤ 1000000 := Nat.le_trans (getV_size _ _ _ HGF.out) HSZ.out
   have HCP := hid (rcopy_any _ y (Nat.le_refl _) hys _ _ wr HY.out)
   have HEr := hid (HE.out.trans HK.out fun q hq e => by omega)
   clear HG
   go_wp2_with fail
   refine HCP.out.mono ?_
   rintro e w4 h
   obtain ⟨u, rfl, hva, hE4⟩ := h.at_
   obtain ⟨B1, e1, B2, e2, rfl, hva⟩ := hva.form
   have hbr := HBR.out.keep hE4 id
   obtain ⟨r0, r1, r2, r3, r4⟩ := blk5 hbr
   obtain ⟨f0, f1, f2, f3, f4⟩ := sqf5 hbr
   have hk := set5_keep w4 (w.heap.size + 1) 0 (U8 y.kind) (.int .i64 y.n) (.string y.s) (.slice B1 y.l.length e1) (.slice B2 y.o.length e2)
   have HT := hid (ret5 (HEr.out.ext hE4) (by omega) hbr (U8 y.kind) (.int .i64 y.n) (.string y.s) (.slice B1 y.l.length e1) (.slice B2 y.o.length e2))
   have HVF := hid (show VAt (fillW w4 (w.heap.size + 1) (U8 y.kind) (.int .i64 y.n) (.string y.s) (.slice B1 y.l.length e1) (.slice B2 y.o.length e2)) (fun q => w.heap.size ≤ q) (.agg (vC y B1 e1 B2 e2)) y from (hva.keep hk fun q hq e => by omega).more fun q _ h => by omega)
   clear hva hE4 hbr hk h q0 q1 q2 q3 q4
   go_wp2
   obtain ⟨hE5, t0, t1, t2, t3, t4⟩ := HT.out
   change bodyPost _ _ _ _ _ (fillW w4 (w.heap.size + 1) (U8 y.kind) (.int .i64 y.n) (.string y.s) (.slice B1 y.l.length e1) (.slice B2 y.o.length e2))
   generalize fillW w4 (w.heap.size + 1) (U8 y.kind) (.int .i64 y.n) (.string y.s) (.slice B1 y.l.length e1) (.slice B2 y.o.length e2) = w9 at *
   refine bodyPost_ret (v := .tuple #[.agg (vC y B1 e1 B2 e2), .int .i64 0]) (by simp [results, Tryd.results66, go_sem, t0, t1, t2, t3, t4]) rfl ?_
   unfold RGetN
   rw [HGF.out]
   exact ⟨⟨_, rfl, HVF.out⟩, hE5⟩
end Go.Proofs.YtggkidnlmaindaaDoor
