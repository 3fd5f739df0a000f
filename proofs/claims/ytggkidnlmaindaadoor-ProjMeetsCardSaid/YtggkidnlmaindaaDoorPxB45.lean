/- ProjX, ProjXL: laid together. -/
import Derived.Test.YtggkidnlmaindaaDoorPxB44
import Derived.Test.YtggkidnlmaindaaDoorPxB39
import Derived.Test.YtggkidnlmaindaaDoorPxB15
import Derived.Test.YtggkidnlmaindaaDoorPxB36
import Derived.Test.YtggkidnlmaindaaDoorPxB14
set_option linter.unusedSimpArgs false
set_option linter.unusedVariables false
set_option maxHeartbeats 25600000
set_option maxRecDepth 20000
namespace Go.Proofs.YtggkidnlmaindaaDoor
open Go.RowKit
theorem meets18_ok (w : World) (S S1 : BS) (lv ru : Value) (pick : Int) (ts : List Tk) (r : Rc) (hl : Sl ETok w S lv ts) (hr : RcAt w S1 ru r) (hp : (Lit.int .u16 pick).wf = true) (hwf : ∀ a ∈ r.acts, Wfa a) (hva : ValAny w) (hD : DecAny w) :
  Calls Tryd.prog 4 #[lv, ru, .int .u16 pick] w fun e w' => e = .returned (.bool true) ∧ Ext w w' := by
 obtain ⟨A, c, rfl, hlc, hcm⟩ := hl.shape
 obtain ⟨vv, ov, av, rfl, h1, h2, h3⟩ := hr
 obtain ⟨A3, c3, rfl, _⟩ := h1.shape
 obtain ⟨A4, c4, rfl, _⟩ := h2.shape
 obtain ⟨A5, c5, rfl, _⟩ := h3.shape
 have hE0 : Ext w (w.alloc (.cells #[U8 r.kind, .int .u32 r.src, .int .u32 r.seq, .slice A3 r.v.length c3, .slice A4 r.op.length c4, .slice A5 r.acts.length c5, .bool r.sound] TREC)) := (Keep.refl _ _).alloc _
 have HBR := hid (Blk.new w TREC #[U8 r.kind, .int .u32 r.src, .int .u32 r.seq, .slice A3 r.v.length c3, .slice A4 r.op.length c4, .slice A5 r.acts.length c5, .bool r.sound])
 have HL := hid (hl.ext ETok.ok hE0)
 have HRC := hid (show RcAt (w.alloc (.cells #[U8 r.kind, .int .u32 r.src, .int .u32 r.seq, .slice A3 r.v.length c3, .slice A4 r.op.length c4, .slice A5 r.acts.length c5, .bool r.sound] TREC)) S1 (.agg #[U8 r.kind, .int .u32 r.src, .int .u32 r.seq, .slice A3 r.v.length c3, .slice A4 r.op.length c4, .slice A5 r.acts.length c5, .bool r.sound]) r from ⟨_, _, _, rfl, h1.ext ETok.ok hE0, h2.ext EBr.ok hE0, h3.ext EAc.ok hE0⟩)
 have HEW := hid hE0
 have HVA := hid hva
 have HD := hid hD
 have HWF := hid hwf
 have HP := hid hp
 have HEND := hid (show ∀ wx, Ext w wx → Calls Tryd.prog 9 #[] wx fun e w' => e = .returned (.bool true) ∧ Ext w w' from fun wx h => (known18_ok w wx hva h).mono fun e w' h2 => ⟨h2.1, h.ext h2.2⟩)
 clear hl h1 h2 h3 hE0 hva hD hwf hp hlc hcm
 go_enter Tryd.func4, Tryd.ntmps4
 go_upto_region 1 with fail
 change Code.wp _ _ _ _ (w.alloc (.cells #[U8 r.kind, .int .u32 r.src, .int .u32 r.seq, .slice A3 r.v.length c3, .slice A4 r.op.length c4, .slice A5 r.acts.length c5, .bool r.sound] TREC))
 generalize (w.alloc (.cells #[U8 r.kind, .int .u32 r.src, .int .u32 r.seq, .slice A3 r.v.length c3, .slice A4 r.op.length c4, .slice A5 r.acts.length c5, .bool r.sound] TREC)) = W0 at *
 obtain ⟨r0, r1, r2, r3, r4, r5, r6⟩ := blk7 HBR.out
 go_wp2_with fail
 refine (heavy18_any W0 _ _ _ _ ts r HL.out HRC.out).mono ?_
 rintro e w1 ⟨b1, rfl, hE⟩
 replace HL := hid (HL.out.ext ETok.ok hE)
 replace HRC := hid (HRC.out.ext hE)
 replace HBR := hid (HBR.out.keep hE id)
 replace HEW := hid (HEW.out.ext hE)
 clear hE r0 r1 r2 r3 r4 r5 r6
 cases b1 with
 | true =>
  go_wp2_with fail
  refine (HEND.out _ HEW.out).mono ?_
  rintro e w2 ⟨rfl, hz⟩
  have HZ := hid hz
  clear hz
  go_wp2
  go_ret
  exact ⟨rfl, HZ.out⟩
 | false =>
  go_wp2_with fail
  refine (known18_ok w _ HVA.out HEW.out).mono ?_
  rintro e w3 ⟨rfl, hE⟩
  replace HL := hid (HL.out.ext ETok.ok hE)
  replace HRC := hid (HRC.out.ext hE)
  replace HBR := hid (HBR.out.keep hE id)
  replace HEW := hid (HEW.out.ext hE)
  clear hE HEND
  go_wp2_with fail
  refine (object_ok _ _ _ _ HL.out).mono ?_
  rintro e w4 ⟨u, ys, m, rfl, hfl, hvo, hE⟩
  obtain ⟨lz, oz, rfl, hlz, hoz⟩ := id hvo
  obtain ⟨Az, cz, rfl, _⟩ := hlz.shape
  obtain ⟨Ao, co, rfl, hoc, _⟩ := hoz.shape
  obtain ⟨hsv, htx, hsz, h5⟩ := obj_facts hfl
  have HFL := hid hfl
  have HSV := hid hsv
  have HTX := hid htx
  have HSZ := hid hsz
  have H5 := hid h5
  have hA : Ext w4 (w4.alloc (.cells #[.int .u8 5, .int .i64 0, .string ⟨#[]⟩, .slice Az 0 cz, .slice Ao ys.length co] TVAL)) := (Keep.refl _ _).alloc _
  have HB7 := hid (Blk.new w4 TVAL #[.int .u8 5, .int .i64 0, .string ⟨#[]⟩, .slice Az 0 cz, .slice Ao ys.length co])
  have HV7 := hid (hvo.ext hA)
  replace HRC := hid (HRC.out.ext (hE.ext hA))
  replace HBR := hid (HBR.out.keep (hE.ext hA) id)
  replace HEW := hid (HEW.out.ext (hE.ext hA))
  clear hE hA hlz hoz hvo hfl hsv htx hsz h5 HL
  go_upto_region 4 with fail
  change Code.wp _ _ _ _ (w4.alloc (.cells #[.int .u8 5, .int .i64 0, .string ⟨#[]⟩, .slice Az 0 cz, .slice Ao ys.length co] TVAL))
  generalize hb7 : w4.heap.size = b7 at *
  generalize (w4.alloc (.cells #[.int .u8 5, .int .i64 0, .string ⟨#[]⟩, .slice Az 0 cz, .slice Ao ys.length co] TVAL)) = w5 at *
  clear hb7
  obtain ⟨q0, q1, q2, q3, q4⟩ := blk5 HB7.out
  go_wp2_with fail
  refine (keys_to _ _ _ (.mk 5 0 ⟨#[]⟩ [] ys) pick HV7.out HP.out).mono ?_
  rintro e w6 ⟨v8, ks, rfl, hsub, _, hks, hE⟩
  obtain ⟨Ak, ck, rfl, _⟩ := hks.shape
  have HKS := hid hks
  have HSUB := hid hsub
  replace HB7 := hid (HB7.out.keep hE id)
  replace HV7 := hid (HV7.out.ext hE)
  replace HRC := hid (HRC.out.ext hE)
  replace HBR := hid (HBR.out.keep hE id)
  replace HEW := hid (HEW.out.ext hE)
  clear hE hks hsub q0 q1 q2 q3 q4
  obtain ⟨q0, q1, q2, q3, q4⟩ := blk5 HB7.out
  obtain ⟨r0, r1, r2, r3, r4, r5, r6⟩ := blk7 HBR.out
  go_wp2_with fail
  refine (fits_en w HVA.out HD.out w6 HEW.out _ _ _ _ (.mk 5 0 ⟨#[]⟩ [] ys) r HV7.out HSV.out HTX.out HSZ.out HRC.out HWF.out).mono ?_
  rintro e w9 ⟨u10, kd, k1, k2, cs, z, rfl, hE, hen, hcl, hcf, hac, hzv, hzz⟩
  obtain ⟨A10, c10, B10, d10, D10, e10, rfl, hz0, hsl, hkd⟩ := id hen
  have hA : Ext w9 (w9.alloc (.cells #[.int .u8 kd, .int .u32 k1, .int .u32 k2, .int .u8 0, .int .i64 0, .string ⟨#[]⟩, .slice A10 0 c10, .slice B10 0 d10, .slice D10 cs.length e10] TENT)) := (Keep.refl _ _).alloc _
  have HB10 := hid (Blk.new w9 TENT #[.int .u8 kd, .int .u32 k1, .int .u32 k2, .int .u8 0, .int .i64 0, .string ⟨#[]⟩, .slice A10 0 c10, .slice B10 0 d10, .slice D10 cs.length e10])
  have HEN := hid (hen.ext hA)
  have HCL := hid hcl
  have HCF := hid hcf
  have HZV := hid hzv
  have HZZ := hid hzz
  have HAT := hid (acts_at HVA.out HD.out ks hac hzv HSZ.out rfl hcl)
  replace HB7 := hid (HB7.out.keep (hE.ext hA) id)
  replace HV7 := hid (HV7.out.ext (hE.ext hA))
  replace HEW := hid (HEW.out.ext (hE.ext hA))
  replace HKS := hid (HKS.out.ext EStr.ok (hE.ext hA))
  clear hE hA hz0 hsl hen hcl hcf hac hzv hzz q0 q1 q2 q3 q4 r0 r1 r2 r3 r4 r5 r6 HRC HBR
  go_upto_region 6 with fail
  change Code.wp _ _ _ _ (w9.alloc (.cells #[.int .u8 kd, .int .u32 k1, .int .u32 k2, .int .u8 0, .int .i64 0, .string ⟨#[]⟩, .slice A10 0 c10, .slice B10 0 d10, .slice D10 cs.length e10] TENT))
  generalize hb10 : w9.heap.size = b10 at *
  generalize (w9.alloc (.cells #[.int .u8 kd, .int .u32 k1, .int .u32 k2, .int .u8 0, .int .i64 0, .string ⟨#[]⟩, .slice A10 0 c10, .slice B10 0 d10, .slice D10 cs.length e10] TENT)) = w10 at *
  clear hb10
  have hkd3 : kd = 2 ∨ kd = 3 := hkd.imp id fun h => h.1
  clear hkd
  obtain ⟨zs, hzs⟩ : ∃ zs, ys.filter (fun f => amongL ks f.key) = zs := ⟨_, rfl⟩
  have HPJ := hid (show projV (.mk 5 0 ⟨#[]⟩ [] ys) ks = .mk 5 0 ⟨#[]⟩ [] zs from by rw [projV_part rfl, ← hzs]; rfl)
  have HPZ := hid (show (V.mk 5 0 ⟨#[]⟩ [] zs).size ≤ 2000 from by rw [← HPJ.out, projV_part rfl]; exact Nat.le_trans (part_size _ _) HSZ.out)
  clear hzs
  obtain ⟨fs, hfs⟩ : ∃ fs, cs.filter (touchL ks) = fs := ⟨_, rfl⟩
  have HFS := hid hfs
  have HFL2 := hid (show fs.length ≤ 20 ∧ ∀ c ∈ fs, c ∈ cs from ⟨by have := List.length_filter_le (touchL ks) cs; have := HCL.out; rw [hfs] at *; omega, fun c hc => by rw [← hfs] at hc; exact (List.mem_filter.1 hc).1⟩)
  clear hfs
  obtain ⟨q0, q1, q2, q3, q4⟩ := blk5 HB7.out
  obtain ⟨s0, s1, s2, s3, s4, s5, s6, s7, s8⟩ := blk9 HB10.out
  rcases hkd3 with rfl | rfl
  ·go_wp2_with fail
   refine (fold_on2 w HVA.out w10 HEW.out _ _ _ _ (.mk 5 0 ⟨#[]⟩ [] ys) z k1 k2 cs HV7.out (Nat.le_trans HSZ.out (by decide)) HEN.out (by have := HCL.out; omega) HAT.out.2.1 HAT.out.1 (HZV.out.wide (Nat.le_trans HZZ.out (by decide)))).mono ?_
   rintro e w12 ⟨hE, ⟨_, rfl⟩ | ⟨hbad, u, rfl, hvz⟩⟩
   case inl =>
    have HZ := hid (HEW.out.ext (hE.ext ((Keep.refl _ _).alloc (.cells #[.int .u8 0, .int .i64 0, .string ⟨#[]⟩, .slice none 0 0, .slice none 0 0] TVAL))))
    clear hE s0 s1 s2 s3 s4 s5 s6 s7 s8 q0 q1 q2 q3 q4
    go_wp2
    go_ret
    exact ⟨rfl, HZ.out⟩
   obtain ⟨A1, n1, B1, m1, rfl, hl1, ho1⟩ := hvz
   have hA : Ext w12 (w12.alloc (.cells (vC z A1 n1 B1 m1) TVAL)) := (Keep.refl _ _).alloc _
   have HBZ := hid (Blk.new w12 TVAL (vC z A1 n1 B1 m1))
   have HVZ := hid (show VAt (w12.alloc (.cells (vC z A1 n1 B1 m1) TVAL)) (fun _ => True) (.agg (vC z A1 n1 B1 m1)) z from ⟨_, _, rfl, (hl1.more EVal.ok fun _ _ _ => trivial).ext EVal.ok hA, (ho1.more EField.ok fun _ _ _ => trivial).ext EField.ok hA⟩)
   replace HB7 := hid (HB7.out.keep (hE.ext hA) id)
   replace HB10 := hid (HB10.out.keep (hE.ext hA) id)
   replace HV7 := hid (HV7.out.ext (hE.ext hA))
   replace HEW := hid (HEW.out.ext (hE.ext hA))
   replace HEN := hid (HEN.out.ext (hE.ext hA))
   replace HKS := hid (HKS.out.ext EStr.ok (hE.ext hA))
   have HGZ := hid hbad
   clear hE hA hl1 ho1 hbad s0 s1 s2 s3 s4 s5 s6 s7 s8 q0 q1 q2 q3 q4
   go_upto_region 7 with fail
   change Code.wp _ _ _ _ (w12.alloc (.cells (vC z A1 n1 B1 m1) TVAL))
   generalize hbz : w12.heap.size = bz at *
   generalize (w12.alloc (.cells (vC z A1 n1 B1 m1) TVAL)) = w13 at *
   clear hbz
   obtain ⟨x, hx⟩ : ∃ x, projV z ks = x := ⟨_, rfl⟩
   have HXE := hid hx
   have hzk := HAT.out.2.2.1
   have HGX := hid (show foldBad x = false from by rw [← hx, projV_part hzk]; exact part_good _ HZV.out hzk HGZ.out)
   have HWX := hid (show Wide x from by
    rw [← hx, projV_part hzk]
    exact (part_sv _ HZV.out hzk).wide (Nat.le_trans (part_size _ _) (Nat.le_trans HZZ.out (by decide))))
   have HDX := hid (show DoesC w (.mk 5 0 ⟨#[]⟩ [] zs) fs x from by rw [← HPJ.out, ← HFS.out, ← hx]; exact HAT.out.2.2.2.1)
   have HSN := hid (show ∀ c ∈ fs, Snd6 c from fun c hc => HAT.out.2.1 c (HFL2.out.2 c hc))
   clear hx hzk
   obtain ⟨q0, q1, q2, q3, q4⟩ := blk5 HB7.out
   obtain ⟨s0, s1, s2, s3, s4, s5, s6, s7, s8⟩ := blk9 HB10.out
   go_wp2_with fail
   refine H.wp_region_frees [9, 10] [1, 4] [0, 2, 3, 5, 6, 7, 8, 9, 10, 11] [12] [13, 14]
    (H.specOf [(2, fun n m => VOk (.mk 5 0 ⟨#[]⟩ [] zs)), (5, fun n m v w' => EnAt w' (fun _ => True) v 2 k1 k2 fs), (6, OutF x w13.heap.size), (11, BoxV w13.heap.size)])
    (fun w' => Ext w13 w') ?_ (H.stableC_ext _) (by kernel_rfl) (by intro k hk; simp at hk; rcases hk with rfl | rfl <;> rfl) (by kernel_rfl) (Keep.drew (Keep.refl _ _)) ?_
   ·exact H.stable_cons (fun n m v w w' h he => h.ext he) (H.stable_cons (fun n m v w w' h he => h.ext he) (H.stable_cons (fun n m v w w' h he => h.ext he) (H.stable_cons (fun n m v w w' h he => h.ext he) H.stable_nil)))
   iterate 2
    (try simp only [Act.put, sqa, sqb, sqc])
    refine H.pure_run rfl rfl ?_
    apply Exists.intro
    refine ⟨fun w' => ?_, ?_⟩
    ·go_simp
     rfl
   refine H.pure_nil ?_
   iterate 1
    (try simp only [Act.put, sqa, sqb, sqc])
    refine H.growP_run rfl rfl rfl ?_
    apply Exists.intro
    refine ⟨fun w' hC hK => ?_, ?_⟩
    ·have q0 := sqw hC q0
     have q1 := sqw hC q1
     have q2 := sqw hC q2
     have q3 := sqw hC q3
     have q4 := sqw hC q4
     go_simp
     rfl
   (try simp only [Act.put, sqa, sqb, sqc])
   refine H.growP_eff rfl rfl rfl (fun w' hC hK => ?_) (fun v2 nv2 mv2 hv2 => ?_)
   ·unfold H.growAt
    go_simp
    refine H.grow_call ((pval_ok _ _ _ _ _ (.mk 5 0 ⟨#[]⟩ [] ys) ks (HV7.out.ext hC) (Nat.le_trans HSZ.out (by decide)) (HKS.out.ext EStr.ok hC)).mono ?_)
    rintro e w'' ⟨u', rfl, h1, h2⟩
    rw [HPJ.out] at h1
    exact ⟨_, rfl, h2, VIs.of h1⟩
   obtain ⟨_, _, A2, c2, B2, d2, rfl, _⟩ := hv2.head
   iterate 1
    (try simp only [Act.put, sqa, sqb, sqc])
    refine H.growP_run rfl rfl rfl ?_
    apply Exists.intro
    refine ⟨fun w' hC hK => ?_, ?_⟩
    ·have s0 := sqw hC s0
     have s1 := sqw hC s1
     have s2 := sqw hC s2
     have s3 := sqw hC s3
     have s4 := sqw hC s4
     have s5 := sqw hC s5
     have s6 := sqw hC s6
     have s7 := sqw hC s7
     have s8 := sqw hC s8
     go_simp
     rfl
   (try simp only [Act.put, sqa, sqb, sqc])
   refine H.growP_eff rfl rfl rfl (fun w' hC hK => ?_) (fun v5 nv5 mv5 hv5 => ?_)
   ·unfold H.growAt
    go_simp
    refine H.grow_call ((entry_on _ _ _ _ _ 2 k1 k2 cs ks (HEN.out.ext hC) (HKS.out.ext EStr.ok hC) (fun c hc => ⟨Nat.le_trans (HCF.out c hc).1 (by decide), Nat.le_trans (HCF.out c hc).2 (by decide)⟩) (by have := HCL.out; omega)).mono ?_)
    rintro e w'' ⟨u', rfl, h1, h2⟩
    rw [HFS.out] at h1
    exact ⟨_, rfl, h2, h1⟩
   obtain ⟨_, _, A4, c4, B4, d4, D4, e4, rfl, _⟩ := hv5.head
   (try simp only [Act.put, sqa, sqb, sqc])
   refine H.growP_eff rfl rfl rfl (fun w' hC hK => ?_) (fun v6 nv6 mv6 hv6 => ?_)
   ·unfold H.growAt
    go_simp
    have h2 : VOk (.mk 5 0 ⟨#[]⟩ [] zs) (.agg #[.int .u8 5, .int .i64 0, .string ⟨#[]⟩, .slice A2 0 c2, .slice B2 zs.length d2]) w' := hK.get (i := 2) (List.mem_cons_of_mem _ List.mem_cons_self) (by kernel_rfl)
    have h5 : EnAt w' (fun _ => True) (.agg #[.int .u8 2, .int .u32 k1, .int .u32 k2, .int .u8 0, .int .i64 0, .string ⟨#[]⟩, .slice A4 0 c4, .slice B4 0 d4, .slice D4 fs.length e4]) 2 k1 k2 fs := hK.get (i := 5) List.mem_cons_self (by kernel_rfl)
    have hcall := (fold_on2 w HVA.out w' (HEW.out.ext hC) _ _ _ _ (.mk 5 0 ⟨#[]⟩ [] zs) x k1 k2 fs h2.at_ (Nat.le_trans HPZ.out (by decide)) h5 (by have := HFL2.out.1; omega) HSN.out HDX.out HWX.out).mono fun e w'' h => h.outf (K := w13.heap.size) HGX.out hC.size
    exact H.grow_call hcall
   obtain ⟨_, _, _, A5, c5, B5, d5, rfl, _⟩ := hv6.head
   iterate 4
    (try simp only [Act.put, sqa, sqb, sqc])
    refine H.growP_run rfl rfl rfl ?_
    apply Exists.intro
    refine ⟨fun w' hC hK => ?_, ?_⟩
    ·go_simp
     rfl
   (try simp only [Act.put, sqa, sqb, sqc])
   refine H.growP_eff rfl rfl rfl (fun w' hC hK => ?_) (fun v11 nv11 mv11 hv11 => ?_)
   ·unfold H.growAt
    go_simp
    exact ⟨(Keep.refl _ _).alloc _, hC.size, by simp, rfl, Blk.new _ _ _⟩
   obtain ⟨_, _, hn11, hnm, rfl, _⟩ := hv11.head
   refine H.growP_nil fun w7 hC hK => ?_
   have hC : Ext w13 w7 := hC
   have hbox : BoxV w13.heap.size nv11 mv11 (.pointer (some ⟨nv11, 0, none⟩)) w7 := (hK.1 (11, _) List.mem_cons_self).1
   have hm11 := hbox.2.1
   have hk7 : Keep (· = nv11) w7 (set5 w7 nv11 0 (U8 x.kind) (.int .i64 x.n) (.string x.s) (.slice A5 x.l.length c5) (.slice B5 x.o.length d5)) := set5_keep _ _ _ _ _ _ _ _
   have HB7x := hid (set5_full hbox.2.2.2 (U8 x.kind) (.int .i64 x.n) (.string x.s) (.slice A5 x.l.length c5) (.slice B5 x.o.length d5))
   have hE7 : Ext w13 (set5 w7 nv11 0 (U8 x.kind) (.int .i64 x.n) (.string x.s) (.slice A5 x.l.length c5) (.slice B5 x.o.length d5)) := hC.trans hk7 fun k hk e => by have := hbox.1; omega
   obtain ⟨hn6, A6, c6, B6, d6, e6, hl6, ho6⟩ : OutF x w13.heap.size nv6 mv6 (.tuple #[.agg (vC x A5 c5 B5 d5), .bool true, .int .i64 0]) w7 := (hK.1 (6, _) (List.mem_cons_of_mem _ List.mem_cons_self)).1
   simp at e6
   obtain ⟨⟨rfl, rfl⟩, rfl, rfl⟩ := e6
   have hap : mv11 ≤ nv6 ∨ mv6 ≤ nv11 := hK.2 (11, _) List.mem_cons_self (6, _) (List.mem_cons_of_mem _ List.mem_cons_self) (by simp)
   have HVX := hid (show VAt (set5 w7 nv11 0 (U8 x.kind) (.int .i64 x.n) (.string x.s) (.slice A5 x.l.length c5) (.slice B5 x.o.length d5)) (fun _ => True) (.agg (vC x A5 c5 B5 d5)) x from
    ⟨_, _, rfl, (hl6.keep EVal.ok hk7 fun q h e => by omega).more EVal.ok fun _ _ _ => trivial, (ho6.keep EField.ok hk7 fun q h e => by omega).more EField.ok fun _ _ _ => trivial⟩)
   clear hl6 ho6 hap hn6
   obtain ⟨r0, r1, r2, r3, r4⟩ := blk5 hbox.2.2.2
   have fr := hbox.2.2.2.frozen
   have HE7 := hid hE7
   clear hbox hK hn11 hnm hm11 hk7 hE7 q0 q1 q2 q3 q4 s0 s1 s2 s3 s4 s5 s6 s7 s8 hv2 hv5 hv6 hv11 hC
   change wpList _ _ _ (_ :: []) _ _
   (try simp only [Act.put, sqa, sqb, sqc])
   go_wp2_with fail
   refine H.Then.normal ?_
   iterate 2
    (try simp only [Act.put, sqa, sqb, sqc])
    refine H.pure_run rfl rfl ?_
    apply Exists.intro
    refine ⟨fun w' => ?_, ?_⟩
    ·go_simp
     rfl
   refine H.pure_nil ?_
   refine NoPanic.normal ?_
   (try simp only [Act.put, sqa, sqb, sqc])
   clear r0 r1 r2 r3 r4 fr
   change Exit.then _ _ Exit.normal _ (set5 w7 nv11 0 (U8 x.kind) (.int .i64 x.n) (.string x.s) (.slice A5 x.l.length c5) (.slice B5 x.o.length d5))
   generalize set5 w7 nv11 0 (U8 x.kind) (.int .i64 x.n) (.string x.s) (.slice A5 x.l.length c5) (.slice B5 x.o.length d5) = w8 at *
   replace HBZ := hid (HBZ.out.keep HE7.out id)
   replace HEW := hid (HEW.out.ext HE7.out)
   replace HVZ := hid (HVZ.out.ext HE7.out)
   replace HKS := hid (HKS.out.ext EStr.ok HE7.out)
   obtain ⟨r0, r1, r2, r3, r4⟩ := blk5 HB7x.out
   obtain ⟨p0, p1, p2, p3, p4⟩ := blk5 HBZ.out
   go_wp2_with fail
   refine wp_region_grow (specOf [(14, VOk x), (15, fun v _ => v = .bool true)]) (fun w' => Ext w8 w')
    (stable_cons (fun v w w' h he => h.ext he) (stable_cons (fun v w w' h he => h) stable_nil)) (stableC_ext _) (by kernel_rfl) (by kernel_rfl) (Keep.drew (Keep.refl _ _)) ?_
   iterate 14
    (try simp only [Act.put, sqa, sqb, sqc])
    refine grow_run rfl rfl rfl ?_
    apply Exists.intro
    refine ⟨fun w' hC hK => ?_, ?_⟩
    ·have r0 := sqw hC r0
     have r1 := sqw hC r1
     have r2 := sqw hC r2
     have r3 := sqw hC r3
     have r4 := sqw hC r4
     have p0 := sqw hC p0
     have p1 := sqw hC p1
     have p2 := sqw hC p2
     have p3 := sqw hC p3
     have p4 := sqw hC p4
     go_simp
     rfl
   (try simp only [Act.put, sqa, sqb, sqc])
   refine grow_eff rfl rfl rfl (fun w' hC hK => ?_) (fun v14 hv14 => ?_)
   ·unfold growAt
    go_simp
    refine grow_call ((pval_ok _ _ _ _ _ z ks (HVZ.out.ext hC) (Nat.le_trans HZZ.out (by decide)) (HKS.out.ext EStr.ok hC)).mono ?_)
    rintro e w'' ⟨u', rfl, h1, h2⟩
    rw [HXE.out] at h1
    exact ⟨_, rfl, h2, VIs.of h1⟩
   obtain ⟨_, _, A8, c8, B8, d8, rfl, _⟩ := hv14.head
   (try simp only [Act.put, sqa, sqb, sqc])
   refine grow_eff rfl rfl rfl (fun w' hC hK => ?_) (fun v15 hv15 => ?_)
   ·unfold growAt
    go_simp
    have h2 : VOk x (.agg (vC x A8 c8 B8 d8)) w' := hK.get (i := 14) List.mem_cons_self (by kernel_rfl)
    refine grow_call ((rsame_any 1000000 _ _ HWX.out.size true (by simp) _ _ _ _ _ (HVX.out.ext hC) h2.at_).mono ?_)
    rintro e w'' ⟨rfl, h1⟩
    exact ⟨_, rfl, h1, rfl⟩
   obtain ⟨_, _, rfl⟩ := hv15.head
   iterate 3
    (try simp only [Act.put, sqa, sqb, sqc])
    refine grow_run rfl rfl rfl ?_
    apply Exists.intro
    refine ⟨fun w' hC hK => ?_, ?_⟩
    ·go_simp
     rfl
   refine grow_nil fun w14 hC _ => ?_
   have HZ := hid (HEW.out.ext (show Ext w8 w14 from hC))
   clear hC hv14 hv15
   go_wp2
   go_ret
   exact ⟨rfl, HZ.out⟩
  ·go_wp2_with fail
   refine (fold_on3 w10 _ _ _ _ (.mk 5 0 ⟨#[]⟩ [] ys) k1 k2 cs HV7.out HEN.out).mono ?_
   rintro e w12 ⟨rfl, hE⟩
   have hA : Ext w12 (w12.alloc (.cells #[.int .u8 0, .int .i64 0, .string ⟨#[]⟩, .slice none 0 0, .slice none 0 0] TVAL)) := (Keep.refl _ _).alloc _
   have HBZ := hid (Blk.new w12 TVAL #[.int .u8 0, .int .i64 0, .string ⟨#[]⟩, .slice none 0 0, .slice none 0 0])
   replace HB7 := hid (HB7.out.keep (hE.ext hA) id)
   replace HB10 := hid (HB10.out.keep (hE.ext hA) id)
   replace HV7 := hid (HV7.out.ext (hE.ext hA))
   replace HEW := hid (HEW.out.ext (hE.ext hA))
   replace HEN := hid (HEN.out.ext (hE.ext hA))
   replace HKS := hid (HKS.out.ext EStr.ok (hE.ext hA))
   clear hE hA s0 s1 s2 s3 s4 s5 s6 s7 s8 q0 q1 q2 q3 q4
   go_upto_region 7 with fail
   change Code.wp _ _ _ _ (w12.alloc (.cells #[.int .u8 0, .int .i64 0, .string ⟨#[]⟩, .slice none 0 0, .slice none 0 0] TVAL))
   generalize hbz : w12.heap.size = bz at *
   generalize (w12.alloc (.cells #[.int .u8 0, .int .i64 0, .string ⟨#[]⟩, .slice none 0 0, .slice none 0 0] TVAL)) = w13 at *
   clear hbz
   obtain ⟨q0, q1, q2, q3, q4⟩ := blk5 HB7.out
   obtain ⟨s0, s1, s2, s3, s4, s5, s6, s7, s8⟩ := blk9 HB10.out
   go_wp2_with fail
   refine H.wp_region_frees [9, 10] [1, 4] [0, 2, 3, 5, 6, 7, 8, 9, 10, 11] [12] [13, 14]
    (H.specOf [(2, fun n m => VOk (.mk 5 0 ⟨#[]⟩ [] zs)), (5, fun n m v w' => EnAt w' (fun _ => True) v 3 k1 k2 fs), (6, fun n m v w => v = .tuple #[.agg #[.int .u8 0, .int .i64 0, .string ⟨#[]⟩, .slice none 0 0, .slice none 0 0], .bool false, .int .i64 0]), (11, BoxV w13.heap.size)])
    (fun w' => Ext w13 w') ?_ (H.stableC_ext _) (by kernel_rfl) (by intro k hk; simp at hk; rcases hk with rfl | rfl <;> rfl) (by kernel_rfl) (Keep.drew (Keep.refl _ _)) ?_
   ·exact H.stable_cons (fun n m v w w' h he => h.ext he) (H.stable_cons (fun n m v w w' h he => h.ext he) (H.stable_cons (fun n m v w w' h he => h) (H.stable_cons (fun n m v w w' h he => h.ext he) H.stable_nil)))
   iterate 2
    (try simp only [Act.put, sqa, sqb, sqc])
    refine H.pure_run rfl rfl ?_
    apply Exists.intro
    refine ⟨fun w' => ?_, ?_⟩
    ·go_simp
     rfl
   refine H.pure_nil ?_
   iterate 1
    (try simp only [Act.put, sqa, sqb, sqc])
    refine H.growP_run rfl rfl rfl ?_
    apply Exists.intro
    refine ⟨fun w' hC hK => ?_, ?_⟩
    ·have q0 := sqw hC q0
     have q1 := sqw hC q1
     have q2 := sqw hC q2
     have q3 := sqw hC q3
     have q4 := sqw hC q4
     go_simp
     rfl
   (try simp only [Act.put, sqa, sqb, sqc])
   refine H.growP_eff rfl rfl rfl (fun w' hC hK => ?_) (fun v2 nv2 mv2 hv2 => ?_)
   ·unfold H.growAt
    go_simp
    refine H.grow_call ((pval_ok _ _ _ _ _ (.mk 5 0 ⟨#[]⟩ [] ys) ks (HV7.out.ext hC) (Nat.le_trans HSZ.out (by decide)) (HKS.out.ext EStr.ok hC)).mono ?_)
    rintro e w'' ⟨u', rfl, h1, h2⟩
    rw [HPJ.out] at h1
    exact ⟨_, rfl, h2, VIs.of h1⟩
   obtain ⟨_, _, A2, c2, B2, d2, rfl, _⟩ := hv2.head
   iterate 1
    (try simp only [Act.put, sqa, sqb, sqc])
    refine H.growP_run rfl rfl rfl ?_
    apply Exists.intro
    refine ⟨fun w' hC hK => ?_, ?_⟩
    ·have s0 := sqw hC s0
     have s1 := sqw hC s1
     have s2 := sqw hC s2
     have s3 := sqw hC s3
     have s4 := sqw hC s4
     have s5 := sqw hC s5
     have s6 := sqw hC s6
     have s7 := sqw hC s7
     have s8 := sqw hC s8
     go_simp
     rfl
   (try simp only [Act.put, sqa, sqb, sqc])
   refine H.growP_eff rfl rfl rfl (fun w' hC hK => ?_) (fun v5 nv5 mv5 hv5 => ?_)
   ·unfold H.growAt
    go_simp
    refine H.grow_call ((entry_on _ _ _ _ _ 3 k1 k2 cs ks (HEN.out.ext hC) (HKS.out.ext EStr.ok hC) (fun c hc => ⟨Nat.le_trans (HCF.out c hc).1 (by decide), Nat.le_trans (HCF.out c hc).2 (by decide)⟩) (by have := HCL.out; omega)).mono ?_)
    rintro e w'' ⟨u', rfl, h1, h2⟩
    rw [HFS.out] at h1
    exact ⟨_, rfl, h2, h1⟩
   obtain ⟨_, _, A4, c4, B4, d4, D4, e4, rfl, _⟩ := hv5.head
   (try simp only [Act.put, sqa, sqb, sqc])
   refine H.growP_eff rfl rfl rfl (fun w' hC hK => ?_) (fun v6 nv6 mv6 hv6 => ?_)
   ·unfold H.growAt
    go_simp
    have h2 : VOk (.mk 5 0 ⟨#[]⟩ [] zs) (.agg #[.int .u8 5, .int .i64 0, .string ⟨#[]⟩, .slice A2 0 c2, .slice B2 zs.length d2]) w' := hK.get (i := 2) (List.mem_cons_of_mem _ List.mem_cons_self) (by kernel_rfl)
    have h5 : EnAt w' (fun _ => True) (.agg #[.int .u8 3, .int .u32 k1, .int .u32 k2, .int .u8 0, .int .i64 0, .string ⟨#[]⟩, .slice A4 0 c4, .slice B4 0 d4, .slice D4 fs.length e4]) 3 k1 k2 fs := hK.get (i := 5) List.mem_cons_self (by kernel_rfl)
    refine H.grow_call ((fold_on3 w' _ _ _ _ (.mk 5 0 ⟨#[]⟩ [] zs) k1 k2 fs h2.at_ h5).mono ?_)
    rintro e w'' ⟨rfl, h1⟩
    exact ⟨_, rfl, h1, rfl⟩
   obtain ⟨_, _, rfl⟩ := hv6.head
   iterate 4
    (try simp only [Act.put, sqa, sqb, sqc])
    refine H.growP_run rfl rfl rfl ?_
    apply Exists.intro
    refine ⟨fun w' hC hK => ?_, ?_⟩
    ·go_simp
     rfl
   (try simp only [Act.put, sqa, sqb, sqc])
   refine H.growP_eff rfl rfl rfl (fun w' hC hK => ?_) (fun v11 nv11 mv11 hv11 => ?_)
   ·unfold H.growAt
    go_simp
    exact ⟨(Keep.refl _ _).alloc _, hC.size, by simp, rfl, Blk.new _ _ _⟩
   obtain ⟨_, _, hn11, hnm, rfl, _⟩ := hv11.head
   refine H.growP_nil fun w7 hC hK => ?_
   have hC : Ext w13 w7 := hC
   have hbox : BoxV w13.heap.size nv11 mv11 (.pointer (some ⟨nv11, 0, none⟩)) w7 := (hK.1 (11, _) List.mem_cons_self).1
   have hm11 := hbox.2.1
   have hk7 : Keep (· = nv11) w7 (set5 w7 nv11 0 (.int .u8 0) (.int .i64 0) (.string ⟨#[]⟩) (.slice none 0 0) (.slice none 0 0)) := set5_keep _ _ _ _ _ _ _ _
   have HB7x := hid (set5_full hbox.2.2.2 (.int .u8 0) (.int .i64 0) (.string ⟨#[]⟩) (.slice none 0 0) (.slice none 0 0))
   have hE7 : Ext w13 (set5 w7 nv11 0 (.int .u8 0) (.int .i64 0) (.string ⟨#[]⟩) (.slice none 0 0) (.slice none 0 0)) := hC.trans hk7 fun k hk e => by have := hbox.1; omega
   obtain ⟨r0, r1, r2, r3, r4⟩ := blk5 hbox.2.2.2
   have fr := hbox.2.2.2.frozen
   have HE7 := hid hE7
   clear hbox hK hn11 hnm hm11 hk7 hE7 q0 q1 q2 q3 q4 s0 s1 s2 s3 s4 s5 s6 s7 s8 hv2 hv5 hv6 hv11 hC
   change wpList _ _ _ (_ :: []) _ _
   (try simp only [Act.put, sqa, sqb, sqc])
   go_wp2_with fail
   refine H.Then.normal ?_
   iterate 2
    (try simp only [Act.put, sqa, sqb, sqc])
    refine H.pure_run rfl rfl ?_
    apply Exists.intro
    refine ⟨fun w' => ?_, ?_⟩
    ·go_simp
     rfl
   refine H.pure_nil ?_
   refine NoPanic.normal ?_
   (try simp only [Act.put, sqa, sqb, sqc])
   clear r0 r1 r2 r3 r4 fr
   change Exit.then _ _ Exit.normal _ (set5 w7 nv11 0 (.int .u8 0) (.int .i64 0) (.string ⟨#[]⟩) (.slice none 0 0) (.slice none 0 0))
   generalize set5 w7 nv11 0 (.int .u8 0) (.int .i64 0) (.string ⟨#[]⟩) (.slice none 0 0) (.slice none 0 0) = w8 at *
   replace HBZ := hid (HBZ.out.keep HE7.out id)
   replace HEW := hid (HEW.out.ext HE7.out)
   replace HKS := hid (HKS.out.ext EStr.ok HE7.out)
   obtain ⟨r0, r1, r2, r3, r4⟩ := blk5 HB7x.out
   obtain ⟨p0, p1, p2, p3, p4⟩ := blk5 HBZ.out
   go_wp2_with fail
   refine wp_region_grow (specOf []) (fun w' => Ext w8 w') stable_nil (stableC_ext _) (by kernel_rfl) (by kernel_rfl) (Keep.drew (Keep.refl _ _)) ?_
   iterate 11
    (try simp only [Act.put, sqa, sqb, sqc])
    refine grow_run rfl rfl rfl ?_
    apply Exists.intro
    refine ⟨fun w' hC hK => ?_, ?_⟩
    ·go_simp
     rfl
   iterate 5
    (try simp only [Act.put, sqa, sqb, sqc])
    with_reducible refine grow_skip ?_ ?_ ?_
    ·rfl
    ·rfl
   iterate 3
    (try simp only [Act.put, sqa, sqb, sqc])
    refine grow_run rfl rfl rfl ?_
    apply Exists.intro
    refine ⟨fun w' hC hK => ?_, ?_⟩
    ·go_simp
     rfl
   refine grow_nil fun w14 hC _ => ?_
   have HZ := hid (HEW.out.ext (show Ext w8 w14 from hC))
   clear hC
   go_wp2
   go_ret
   exact ⟨rfl, HZ.out⟩
end Go.Proofs.YtggkidnlmaindaaDoor
namespace Go.Proofs.YtggkidnlmaindaaDoor
open Go.ChangeShapes Go.WideShapes Go.ChangeAt Go.RowKit Go.Deep
theorem meets18_lift {Q : Prop} (lv : Value) (l : List Tk) (cs : Array Value) (r : Rc) (pick : Int) (w : World) (h0 : Sl ETok w (fun k => k < w.heap.size) lv l) (q0 : Q) (h1 : ERc.rd w (fun k => k < w.heap.size) cs.toList r) (q1 : ∀ a ∈ r.acts, Wfa a) (q2 : (Lit.int .u16 pick).wf = true) (hT : ValAny w ∧ DecAny w) :
  Calls Tryd.prog 4 #[lv, .agg cs, .int .u16 pick] w fun e w' => e = .returned (.bool true) ∧ Below w.heap.size w w' := by
 obtain ⟨vv, ov, av, e1, a1, a2, a3⟩ := h1
 exact (meets18_ok w _ _ lv (.agg cs) pick l r h0 ⟨vv, ov, av, by rw [← Array.toArray_toList (xs := cs), e1], a1, a2, a3⟩ q2 q1 hT.1 hT.2).mono fun e w' h => ⟨h.1, h.2.toBelow⟩
end Go.Proofs.YtggkidnlmaindaaDoor
