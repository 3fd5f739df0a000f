/- ProjT, ProjTL: laid together. -/
import Derived.Test.YtggkidnlmaindaaDoorPxB44
import Derived.Test.YtggkidnlmaindaaDoorPxB39
import Derived.Test.YtggkidnlmaindaaDoorPxB15
import Derived.Test.YtggkidnlmaindaaDoorPxB36
import Derived.Test.YtggkidnlmaindaaDoorPxB14
set_option linter.unusedSimpArgs false
set_option linter.unusedVariables false
set_option maxHeartbeats 25600000
set_option maxRecDepth 20000
namespace Go.Proofs.YtggkidnlmaindaaDoor
open Go.RowKit
theorem twice18_ok (w : World) (S S1 : BS) (lv ru : Value) (pick : Int) (ts : List Tk) (r : Rc) (hl : Sl ETok w S lv ts) (hr : RcAt w S1 ru r) (hp : (Lit.int .u16 pick).wf = true) (hwf : ∀ a ∈ r.acts, Wfa a) (hva : ValAny w) (hD : DecAny w) :
  Calls Tryd.prog 6 #[lv, ru, .int .u16 pick] w fun e w' => e = .returned (.bool true) ∧ Ext w w' := by
 obtain ⟨A, c, rfl, hlc, hcm⟩ := hl.shape
 obtain ⟨vv, ov, av, rfl, h1, h2, h3⟩ := hr
 obtain ⟨A3, c3, rfl, _⟩ := h1.shape
 obtain ⟨A4, c4, rfl, _⟩ := h2.shape
 obtain ⟨A5, c5, rfl, _⟩ := h3.shape
 have hE0 : Ext w (w.alloc (.cells #[U8 r.kind, .int .u32 r.src, .int .u32 r.seq, .slice A3 r.v.length c3, .slice A4 r.op.length c4, .slice A5 r.acts.length c5, .bool r.sound] TREC)) := (Keep.refl _ _).alloc _
 have HBR := hid (Blk.new w TREC #[U8 r.kind, .int .u32 r.src, .int .u32 r.seq, .slice A3 r.v.length c3, .slice A4 r.op.length c4, .slice A5 r.acts.length c5, .bool r.sound])
 have HL := hid (hl.ext ETok.ok hE0)
 have HRC := hid (show RcAt (w.alloc (.cells #[U8 r.kind, .int .u32 r.src, .int .u32 r.seq, .slice A3 r.v.length c3, .slice A4 r.op.length c4, .slice A5 r.acts.length c5, .bool r.sound] TREC)) S1 (.agg #[U8 r.kind, .int .u32 r.src, .int .u32 r.seq, .slice A3 r.v.length c3, .slice A4 r.op.length c4, .slice A5 r.acts.length c5, .bool r.sound]) r from ⟨_, _, _, rfl, h1.ext ETok.ok hE0, h2.ext EBr.ok hE0, h3.ext EAc.ok hE0⟩)
 have HEW := hid hE0
 have HVA := hid hva
 have HD := hid hD
 have HWF := hid hwf
 have HP := hid hp
 have HEND := hid (show ∀ wx, Ext w wx → Calls Tryd.prog 9 #[] wx fun e w' => e = .returned (.bool true) ∧ Ext w w' from fun wx h => (known18_ok w wx hva h).mono fun e w' h2 => ⟨h2.1, h.ext h2.2⟩)
 clear hl h1 h2 h3 hE0 hva hD hwf hp hlc hcm
 go_enter Tryd.func6, Tryd.ntmps6
 go_upto_region 1 with fail
 change Code.wp _ _ _ _ (w.alloc (.cells #[U8 r.kind, .int .u32 r.src, .int .u32 r.seq, .slice A3 r.v.length c3, .slice A4 r.op.length c4, .slice A5 r.acts.length c5, .bool r.sound] TREC))
 generalize (w.alloc (.cells #[U8 r.kind, .int .u32 r.src, .int .u32 r.seq, .slice A3 r.v.length c3, .slice A4 r.op.length c4, .slice A5 r.acts.length c5, .bool r.sound] TREC)) = W0 at *
 obtain ⟨r0, r1, r2, r3, r4, r5, r6⟩ := blk7 HBR.out
 go_wp2_with fail
 refine (heavy18_any W0 _ _ _ _ ts r HL.out HRC.out).mono ?_
 rintro e w1 ⟨b1, rfl, hE⟩
 replace HL := hid (HL.out.ext ETok.ok hE)
 replace HRC := hid (HRC.out.ext hE)
 replace HBR := hid (HBR.out.keep hE id)
 replace HEW := hid (HEW.out.ext hE)
 clear hE r0 r1 r2 r3 r4 r5 r6
 cases b1 with
 | true =>
  go_wp2_with fail
  refine (HEND.out _ HEW.out).mono ?_
  rintro e w2 ⟨rfl, hz⟩
  have HZ := hid hz
  clear hz
  go_wp2
  go_ret
  exact ⟨rfl, HZ.out⟩
 | false =>
  go_wp2_with fail
  refine (known18_ok w _ HVA.out HEW.out).mono ?_
  rintro e w3 ⟨rfl, hE⟩
  replace HL := hid (HL.out.ext ETok.ok hE)
  replace HRC := hid (HRC.out.ext hE)
  replace HBR := hid (HBR.out.keep hE id)
  replace HEW := hid (HEW.out.ext hE)
  clear hE HEND
  go_wp2_with fail
  refine (object_ok _ _ _ _ HL.out).mono ?_
  rintro e w4 ⟨u, ys, m, rfl, hfl, hvo, hE⟩
  obtain ⟨lz, oz, rfl, hlz, hoz⟩ := id hvo
  obtain ⟨Az, cz, rfl, _⟩ := hlz.shape
  obtain ⟨Ao, co, rfl, hoc, _⟩ := hoz.shape
  obtain ⟨hsv, htx, hsz, h5⟩ := obj_facts hfl
  have HFL := hid hfl
  have HSV := hid hsv
  have HTX := hid htx
  have HSZ := hid hsz
  have H5 := hid h5
  have hA : Ext w4 (w4.alloc (.cells #[.int .u8 5, .int .i64 0, .string ⟨#[]⟩, .slice Az 0 cz, .slice Ao ys.length co] TVAL)) := (Keep.refl _ _).alloc _
  have HB7 := hid (Blk.new w4 TVAL #[.int .u8 5, .int .i64 0, .string ⟨#[]⟩, .slice Az 0 cz, .slice Ao ys.length co])
  have HV7 := hid (hvo.ext hA)
  replace HRC := hid (HRC.out.ext (hE.ext hA))
  replace HBR := hid (HBR.out.keep (hE.ext hA) id)
  replace HEW := hid (HEW.out.ext (hE.ext hA))
  clear hE hA hlz hoz hvo hfl hsv htx hsz h5 HL
  go_upto_region 4 with fail
  change Code.wp _ _ _ _ (w4.alloc (.cells #[.int .u8 5, .int .i64 0, .string ⟨#[]⟩, .slice Az 0 cz, .slice Ao ys.length co] TVAL))
  generalize hb7 : w4.heap.size = b7 at *
  generalize (w4.alloc (.cells #[.int .u8 5, .int .i64 0, .string ⟨#[]⟩, .slice Az 0 cz, .slice Ao ys.length co] TVAL)) = w5 at *
  clear hb7
  obtain ⟨q0, q1, q2, q3, q4⟩ := blk5 HB7.out
  go_wp2_with fail
  refine (keys_to _ _ _ (.mk 5 0 ⟨#[]⟩ [] ys) pick HV7.out HP.out).mono ?_
  rintro e w6 ⟨v8, ks, rfl, hsub, _, hks, hE⟩
  obtain ⟨Ak, ck, rfl, _⟩ := hks.shape
  have HKS := hid hks
  have HSUB := hid hsub
  replace HB7 := hid (HB7.out.keep hE id)
  replace HV7 := hid (HV7.out.ext hE)
  replace HRC := hid (HRC.out.ext hE)
  replace HBR := hid (HBR.out.keep hE id)
  replace HEW := hid (HEW.out.ext hE)
  clear hE hks hsub q0 q1 q2 q3 q4
  obtain ⟨q0, q1, q2, q3, q4⟩ := blk5 HB7.out
  obtain ⟨r0, r1, r2, r3, r4, r5, r6⟩ := blk7 HBR.out
  obtain ⟨zs, hzs⟩ : ∃ zs, ys.filter (fun f => amongL ks f.key) = zs := ⟨_, rfl⟩
  have hpj : projV (.mk 5 0 ⟨#[]⟩ [] ys) ks = .mk 5 0 ⟨#[]⟩ [] zs := by rw [projV_part rfl, ← hzs]; rfl
  have HZS := hid hzs
  have hzle : zs.length ≤ ys.length := by rw [← hzs]; exact List.length_filter_le _ _
  have HPJ := hid hpj
  have HSP := hid (show SV (.mk 5 0 ⟨#[]⟩ [] zs) ∧ (V.mk 5 0 ⟨#[]⟩ [] zs).size ≤ 2000 from by
   have h1 := part_sv (amongL ks) HSV.out rfl
   have h2 := part_size (amongL ks) (.mk 5 0 ⟨#[]⟩ [] ys)
   rw [← hpj, projV_part rfl]
   exact ⟨h1, Nat.le_trans h2 HSZ.out⟩)
  clear hzs hpj
  go_wp2_with fail
  refine (pval_ok _ _ _ _ _ (.mk 5 0 ⟨#[]⟩ [] ys) ks HV7.out (Nat.le_trans HSZ.out (by decide)) HKS.out).mono ?_
  rintro e w7 ⟨u9, rfl, hv9, hE⟩
  rw [HPJ.out] at hv9
  obtain ⟨l9, o9, rfl, hl9, ho9⟩ := id hv9
  obtain ⟨A9, c9, rfl, _⟩ := hl9.shape
  obtain ⟨B9, d9, rfl, hd9, _⟩ := ho9.shape
  have hA : Ext w7 (w7.alloc (.cells #[.int .u8 5, .int .i64 0, .string ⟨#[]⟩, .slice A9 0 c9, .slice B9 zs.length d9] TVAL)) := (Keep.refl _ _).alloc _
  have HB9 := hid (Blk.new w7 TVAL #[.int .u8 5, .int .i64 0, .string ⟨#[]⟩, .slice A9 0 c9, .slice B9 zs.length d9])
  have HV9 := hid (hv9.ext hA)
  replace HB7 := hid (HB7.out.keep (hE.ext hA) id)
  replace HBR := hid (HBR.out.keep (hE.ext hA) id)
  replace HV7 := hid (HV7.out.ext (hE.ext hA))
  replace HRC := hid (HRC.out.ext (hE.ext hA))
  replace HEW := hid (HEW.out.ext (hE.ext hA))
  replace HKS := hid (HKS.out.ext EStr.ok (hE.ext hA))
  clear hE hA hl9 ho9 hv9 q0 q1 q2 q3 q4 r0 r1 r2 r3 r4 r5 r6
  go_upto_region 6 with fail
  change Code.wp _ _ _ _ (w7.alloc (.cells #[.int .u8 5, .int .i64 0, .string ⟨#[]⟩, .slice A9 0 c9, .slice B9 zs.length d9] TVAL))
  generalize hb9 : w7.heap.size = b9 at *
  generalize (w7.alloc (.cells #[.int .u8 5, .int .i64 0, .string ⟨#[]⟩, .slice A9 0 c9, .slice B9 zs.length d9] TVAL)) = w8 at *
  clear hb9
  obtain ⟨q0, q1, q2, q3, q4⟩ := blk5 HB7.out
  obtain ⟨r0, r1, r2, r3, r4, r5, r6⟩ := blk7 HBR.out
  go_wp2_with fail
  refine (fits_en w HVA.out HD.out w8 HEW.out _ _ _ _ (.mk 5 0 ⟨#[]⟩ [] ys) r HV7.out HSV.out HTX.out HSZ.out HRC.out HWF.out).mono ?_
  rintro e w9 ⟨u10, kd, k1, k2, cs, z, rfl, hE, hen, hcl, hcf, hac, hsz, hzz⟩
  obtain ⟨A10, c10, B10, d10, D10, e10, rfl, hz0, hsl, hkd⟩ := id hen
  have hA : Ext w9 (w9.alloc (.cells #[.int .u8 kd, .int .u32 k1, .int .u32 k2, .int .u8 0, .int .i64 0, .string ⟨#[]⟩, .slice A10 0 c10, .slice B10 0 d10, .slice D10 cs.length e10] TENT)) := (Keep.refl _ _).alloc _
  have HB10 := hid (Blk.new w9 TENT #[.int .u8 kd, .int .u32 k1, .int .u32 k2, .int .u8 0, .int .i64 0, .string ⟨#[]⟩, .slice A10 0 c10, .slice B10 0 d10, .slice D10 cs.length e10])
  have HEN := hid (hen.ext hA)
  have HCL := hid hcl
  have HCF := hid hcf
  replace HB7 := hid (HB7.out.keep (hE.ext hA) id)
  replace HB9 := hid (HB9.out.keep (hE.ext hA) id)
  replace HV7 := hid (HV7.out.ext (hE.ext hA))
  replace HV9 := hid (HV9.out.ext (hE.ext hA))
  replace HEW := hid (HEW.out.ext (hE.ext hA))
  replace HKS := hid (HKS.out.ext EStr.ok (hE.ext hA))
  clear hE hA hz0 hsl hkd hen hcl hcf hac hsz hzz q0 q1 q2 q3 q4 r0 r1 r2 r3 r4 r5 r6 HRC HBR
  go_upto_region 7 with fail
  change Code.wp _ _ _ _ (w9.alloc (.cells #[.int .u8 kd, .int .u32 k1, .int .u32 k2, .int .u8 0, .int .i64 0, .string ⟨#[]⟩, .slice A10 0 c10, .slice B10 0 d10, .slice D10 cs.length e10] TENT))
  generalize hb10 : w9.heap.size = b10 at *
  generalize (w9.alloc (.cells #[.int .u8 kd, .int .u32 k1, .int .u32 k2, .int .u8 0, .int .i64 0, .string ⟨#[]⟩, .slice A10 0 c10, .slice B10 0 d10, .slice D10 cs.length e10] TENT)) = w10 at *
  clear hb10
  obtain ⟨s0, s1, s2, s3, s4, s5, s6, s7, s8⟩ := blk9 HB10.out
  go_wp2_with fail
  refine (entry_on w10 _ _ _ _ kd k1 k2 cs ks HEN.out HKS.out (fun c hc => ⟨Nat.le_trans (HCF.out c hc).1 (by decide), Nat.le_trans (HCF.out c hc).2 (by decide)⟩) (by have := HCL.out; omega)).mono ?_
  rintro e w11 ⟨u11, rfl, hen, hE⟩
  obtain ⟨fs, hfs⟩ : ∃ fs, cs.filter (touchL ks) = fs := ⟨_, rfl⟩
  rw [hfs] at hen
  have HFS := hid hfs
  have HFF := hid (show (∀ c ∈ fs, Fit c) ∧ fs.length ≤ 1000 ∧ fs.filter (touchL ks) = fs from ⟨fun c hc => by
    rw [← hfs] at hc
    have hc := (List.mem_filter.1 hc).1
    exact ⟨Nat.le_trans (HCF.out c hc).1 (by decide), Nat.le_trans (HCF.out c hc).2 (by decide)⟩,
   by have := List.length_filter_le (touchL ks) cs; have := HCL.out; rw [hfs] at *; omega, by rw [← hfs, List.filter_filter]; simp⟩)
  clear hfs
  obtain ⟨A11, c11, B11, d11, D11, e11, rfl, hz0, hsl, hkd⟩ := id hen
  have hA : Ext w11 (w11.alloc (.cells #[.int .u8 kd, .int .u32 k1, .int .u32 k2, .int .u8 0, .int .i64 0, .string ⟨#[]⟩, .slice A11 0 c11, .slice B11 0 d11, .slice D11 fs.length e11] TENT)) := (Keep.refl _ _).alloc _
  have HB11 := hid (Blk.new w11 TENT #[.int .u8 kd, .int .u32 k1, .int .u32 k2, .int .u8 0, .int .i64 0, .string ⟨#[]⟩, .slice A11 0 c11, .slice B11 0 d11, .slice D11 fs.length e11])
  have HEN1 := hid (hen.ext hA)
  replace HB7 := hid (HB7.out.keep (hE.ext hA) id)
  replace HB9 := hid (HB9.out.keep (hE.ext hA) id)
  replace HV7 := hid (HV7.out.ext (hE.ext hA))
  replace HV9 := hid (HV9.out.ext (hE.ext hA))
  replace HEW := hid (HEW.out.ext (hE.ext hA))
  replace HKS := hid (HKS.out.ext EStr.ok (hE.ext hA))
  clear hE hA hz0 hsl hkd hen s0 s1 s2 s3 s4 s5 s6 s7 s8 HEN HB10 HFS
  go_upto_region 8 with fail
  change Code.wp _ _ _ _ (w11.alloc (.cells #[.int .u8 kd, .int .u32 k1, .int .u32 k2, .int .u8 0, .int .i64 0, .string ⟨#[]⟩, .slice A11 0 c11, .slice B11 0 d11, .slice D11 fs.length e11] TENT))
  generalize hb11 : w11.heap.size = b11 at *
  generalize (w11.alloc (.cells #[.int .u8 kd, .int .u32 k1, .int .u32 k2, .int .u8 0, .int .i64 0, .string ⟨#[]⟩, .slice A11 0 c11, .slice B11 0 d11, .slice D11 fs.length e11] TENT)) = w12 at *
  clear hb11
  obtain ⟨q0, q1, q2, q3, q4⟩ := blk5 HB7.out
  obtain ⟨p0, p1, p2, p3, p4⟩ := blk5 HB9.out
  have HALL := hid (show projV (.mk 5 0 ⟨#[]⟩ [] ys) (ys.map F.key) = (.mk 5 0 ⟨#[]⟩ [] ys) from by
   rw [projV_part rfl]; exact part_all fun f hf => among_mem (List.mem_map_of_mem hf))
  have HTW := hid (show projV (.mk 5 0 ⟨#[]⟩ [] zs) ks = .mk 5 0 ⟨#[]⟩ [] zs from by
   rw [projV_part rfl, ← HPJ.out, projV_part rfl, part_part])
  have HNO := hid (show projV (.mk 5 0 ⟨#[]⟩ [] ys) [] = .mk 5 0 ⟨#[]⟩ [] [] from by
   rw [projV_part rfl]
   exact part_no _)
  refine wp_region_grow (specOf [(2, VOk (.mk 5 0 ⟨#[]⟩ [] zs)), (4, fun v _ => v = .bool true), (8, fun v w' => ∃ A c, v = .slice A ys.length c ∧ Sl EStr w' (fun _ => True) (.slice A ys.length c) (ys.map F.key)), (9, VOk (.mk 5 0 ⟨#[]⟩ [] ys)), (11, fun v _ => v = .bool true), (15, VOk (.mk 5 0 ⟨#[]⟩ [] []))]) (fun w' => Ext w12 w')
   (stable_cons (fun v w w' h he => h.ext he) (stable_cons (fun v w w' h he => h) (stable_cons (fun v w w' h he => h.elim fun A h => h.elim fun c h => ⟨A, c, h.1, h.2.ext EStr.ok he⟩) (stable_cons (fun v w w' h he => h.ext he) (stable_cons (fun v w w' h he => h) (stable_cons (fun v w w' h he => h.ext he) stable_nil)))))) (stableC_ext _) (by kernel_rfl) (by kernel_rfl) (Keep.drew (Keep.refl _ _)) ?_
  iterate 2
   (try simp only [Act.put, sqa, sqb, sqc])
   refine grow_run rfl rfl rfl ?_
   apply Exists.intro
   refine ⟨fun w' hC hK => ?_, ?_⟩
   ·have p0 := sqw hC p0
    have p1 := sqw hC p1
    have p2 := sqw hC p2
    have p3 := sqw hC p3
    have p4 := sqw hC p4
    go_simp
    rfl
  (try simp only [Act.put, sqa, sqb, sqc])
  refine grow_eff rfl rfl rfl (fun w' hC hK => ?_) (fun v2 hv2 => ?_)
  ·unfold growAt
   go_simp
   refine grow_call ((pval_ok _ _ _ _ _ (.mk 5 0 ⟨#[]⟩ [] zs) ks (HV9.out.ext hC) (Nat.le_trans HSP.out.2 (by decide)) (HKS.out.ext EStr.ok hC)).mono ?_)
   rintro e w'' ⟨u', rfl, h1, h2⟩
   rw [HTW.out] at h1
   exact ⟨_, rfl, h2, VIs.of h1⟩
  obtain ⟨_, _, A2, c2, B2, d2, rfl, _⟩ := hv2.head
  iterate 1
   (try simp only [Act.put, sqa, sqb, sqc])
   refine grow_run rfl rfl rfl ?_
   apply Exists.intro
   refine ⟨fun w' hC hK => ?_, ?_⟩
   ·have p0 := sqw hC p0
    have p1 := sqw hC p1
    have p2 := sqw hC p2
    have p3 := sqw hC p3
    have p4 := sqw hC p4
    go_simp
    rfl
  (try simp only [Act.put, sqa, sqb, sqc])
  refine grow_eff rfl rfl rfl (fun w' hC hK => ?_) (fun v4 hv4 => ?_)
  ·unfold growAt
   go_simp
   have h2 : VOk (.mk 5 0 ⟨#[]⟩ [] zs) (.agg #[.int .u8 5, .int .i64 0, .string ⟨#[]⟩, .slice A2 0 c2, .slice B2 zs.length d2]) w' := hK.get (i := 2) List.mem_cons_self (by kernel_rfl)
   refine grow_call ((rsame_any 1000000 _ _ (Nat.le_trans HSP.out.2 (by decide)) true (by simp) _ _ _ _ _ h2.at_ (HV9.out.ext hC)).mono ?_)
   rintro e w'' ⟨rfl, h1⟩
   exact ⟨_, rfl, h1, rfl⟩
  obtain ⟨_, _, rfl⟩ := hv4.head
  iterate 3
   (try simp only [Act.put, sqa, sqb, sqc])
   refine grow_run rfl rfl rfl ?_
   apply Exists.intro
   refine ⟨fun w' hC hK => ?_, ?_⟩
   ·have q0 := sqw hC q0
    have q1 := sqw hC q1
    have q2 := sqw hC q2
    have q3 := sqw hC q3
    have q4 := sqw hC q4
    go_simp
    rfl
  (try simp only [Act.put, sqa, sqb, sqc])
  refine grow_eff rfl rfl rfl (fun w' hC hK => ?_) (fun v8 hv8 => ?_)
  ·unfold growAt
   go_simp
   refine grow_call ((keys_to _ _ _ (.mk 5 0 ⟨#[]⟩ [] ys) 65535 (HV7.out.ext hC) (by decide)).mono ?_)
   rintro e w'' ⟨v', kk, rfl, _, hall, h1, h2⟩
   have hkk := hall rfl
   rw [List.take_of_length_le (by have := H5.out; show ys.length ≤ 16; omega)] at hkk
   have hkk : kk = ys.map F.key := hkk
   subst hkk
   obtain ⟨Ax, cx, rfl, _⟩ := h1.shape
   rw [List.length_map] at h1 ⊢
   exact ⟨_, rfl, h2, Ax, cx, rfl, h1⟩
  obtain ⟨_, _, A8, c8, rfl, _⟩ := hv8.head
  (try simp only [Act.put, sqa, sqb, sqc])
  refine grow_eff rfl rfl rfl (fun w' hC hK => ?_) (fun v9 hv9 => ?_)
  ·unfold growAt
   go_simp
   obtain ⟨Ax, cx, ex, hx⟩ : ∃ A c, Value.slice A8 ys.length c8 = .slice A ys.length c ∧ Sl EStr w' (fun _ => True) (.slice A ys.length c) (ys.map F.key) := hK.get (i := 8) List.mem_cons_self (by kernel_rfl)
   injection ex with ex1 _ ex2
   subst ex1 ex2
   refine grow_call ((pval_ok _ _ _ _ _ (.mk 5 0 ⟨#[]⟩ [] ys) (ys.map F.key) (HV7.out.ext hC) (Nat.le_trans HSZ.out (by decide)) hx).mono ?_)
   rintro e w'' ⟨u', rfl, h1, h2⟩
   rw [HALL.out] at h1
   exact ⟨_, rfl, h2, VIs.of h1⟩
  obtain ⟨_, _, A0, c0, B0, d0, rfl, _⟩ := hv9.head
  iterate 1
   (try simp only [Act.put, sqa, sqb, sqc])
   refine grow_run rfl rfl rfl ?_
   apply Exists.intro
   refine ⟨fun w' hC hK => ?_, ?_⟩
   ·have q0 := sqw hC q0
    have q1 := sqw hC q1
    have q2 := sqw hC q2
    have q3 := sqw hC q3
    have q4 := sqw hC q4
    go_simp
    rfl
  (try simp only [Act.put, sqa, sqb, sqc])
  refine grow_eff rfl rfl rfl (fun w' hC hK => ?_) (fun v11 hv11 => ?_)
  ·unfold growAt
   go_simp
   have h2 : VOk (.mk 5 0 ⟨#[]⟩ [] ys) (.agg #[.int .u8 5, .int .i64 0, .string ⟨#[]⟩, .slice A0 0 c0, .slice B0 ys.length d0]) w' := hK.get (i := 9) List.mem_cons_self (by kernel_rfl)
   refine grow_call ((rsame_any 1000000 _ _ (Nat.le_trans HSZ.out (by decide)) true (by simp) _ _ _ _ _ h2.at_ (HV7.out.ext hC)).mono ?_)
   rintro e w'' ⟨rfl, h1⟩
   exact ⟨_, rfl, h1, rfl⟩
  obtain ⟨_, _, rfl⟩ := hv11.head
  iterate 3
   (try simp only [Act.put, sqa, sqb, sqc])
   refine grow_run rfl rfl rfl ?_
   apply Exists.intro
   refine ⟨fun w' hC hK => ?_, ?_⟩
   ·have q0 := sqw hC q0
    have q1 := sqw hC q1
    have q2 := sqw hC q2
    have q3 := sqw hC q3
    have q4 := sqw hC q4
    go_simp
    rfl
  (try simp only [Act.put, sqa, sqb, sqc])
  refine grow_eff rfl rfl rfl (fun w' hC hK => ?_) (fun v15 hv15 => ?_)
  ·unfold growAt
   go_simp
   refine grow_call ((pval_ok _ _ (fun _ => True) _ _ (.mk 5 0 ⟨#[]⟩ [] ys) [] (HV7.out.ext hC) (Nat.le_trans HSZ.out (by decide)) (Sl.nil _ _)).mono ?_)
   rintro e w'' ⟨u', rfl, h1, h2⟩
   rw [HNO.out] at h1
   exact ⟨_, rfl, h2, VIs.of h1⟩
  obtain ⟨_, _, A1, c1, B1, d1, rfl, _⟩ := hv15.head
  iterate 5
   (try simp only [Act.put, sqa, sqb, sqc])
   refine grow_run rfl rfl rfl ?_
   apply Exists.intro
   refine ⟨fun w' hC hK => ?_, ?_⟩
   ·go_simp
    rfl
  refine grow_nil fun w13 hC _ => ?_
  have hC : Ext w12 w13 := hC
  replace HB7 := hid (HB7.out.keep hC id)
  replace HB9 := hid (HB9.out.keep hC id)
  replace HB11 := hid (HB11.out.keep hC id)
  replace HV7 := hid (HV7.out.ext hC)
  replace HV9 := hid (HV9.out.ext hC)
  replace HEW := hid (HEW.out.ext hC)
  replace HEN1 := hid (HEN1.out.ext hC)
  replace HKS := hid (HKS.out.ext EStr.ok hC)
  clear hC hv2 hv4 hv8 hv9 hv11 hv15 q0 q1 q2 q3 q4 p0 p1 p2 p3 p4
  obtain ⟨p0, p1, p2, p3, p4⟩ := blk5 HB9.out
  obtain ⟨s0, s1, s2, s3, s4, s5, s6, s7, s8⟩ := blk9 HB11.out
  go_wp2_with fail
  refine wp_region_grow (specOf [(4, fun v w' => EnAt w' (fun _ => True) v kd k1 k2 fs), (6, fun v _ => v = .bool true), (10, fun v _ => v = .bool true)]) (fun w' => Ext w13 w')
   (stable_cons (fun v w w' h he => h.ext he) (stable_cons (fun v w w' h he => h) (stable_cons (fun v w w' h he => h) stable_nil))) (stableC_ext _) (by kernel_rfl) (by kernel_rfl) (Keep.drew (Keep.refl _ _)) ?_
  iterate 4
   (try simp only [Act.put, sqa, sqb, sqc])
   refine grow_run rfl rfl rfl ?_
   apply Exists.intro
   refine ⟨fun w' hC hK => ?_, ?_⟩
   ·have s0 := sqw hC s0
    have s1 := sqw hC s1
    have s2 := sqw hC s2
    have s3 := sqw hC s3
    have s4 := sqw hC s4
    have s5 := sqw hC s5
    have s6 := sqw hC s6
    have s7 := sqw hC s7
    have s8 := sqw hC s8
    go_simp
    rfl
  (try simp only [Act.put, sqa, sqb, sqc])
  refine grow_eff rfl rfl rfl (fun w' hC hK => ?_) (fun v4 hv4 => ?_)
  ·unfold growAt
   go_simp
   refine grow_call ((entry_on _ _ _ _ _ kd k1 k2 fs ks (HEN1.out.ext hC) (HKS.out.ext EStr.ok hC) HFF.out.1 HFF.out.2.1).mono ?_)
   rintro e w'' ⟨u', rfl, h1, h2⟩
   rw [HFF.out.2.2] at h1
   exact ⟨_, rfl, h2, h1⟩
  obtain ⟨_, _, A4, c4, B4, d4, D4, e4, rfl, _⟩ := hv4.head
  iterate 1
   (try simp only [Act.put, sqa, sqb, sqc])
   refine grow_run rfl rfl rfl ?_
   apply Exists.intro
   refine ⟨fun w' hC hK => ?_, ?_⟩
   ·have s0 := sqw hC s0
    have s1 := sqw hC s1
    have s2 := sqw hC s2
    have s3 := sqw hC s3
    have s4 := sqw hC s4
    have s5 := sqw hC s5
    have s6 := sqw hC s6
    have s7 := sqw hC s7
    have s8 := sqw hC s8
    go_simp
    rfl
  (try simp only [Act.put, sqa, sqb, sqc])
  refine grow_eff rfl rfl rfl (fun w' hC hK => ?_) (fun v6 hv6 => ?_)
  ·unfold growAt
   go_simp
   have h2 : EnAt w' (fun _ => True) (.agg #[.int .u8 kd, .int .u32 k1, .int .u32 k2, .int .u8 0, .int .i64 0, .string ⟨#[]⟩, .slice A4 0 c4, .slice B4 0 d4, .slice D4 fs.length e4]) kd k1 k2 fs := hK.get (i := 4) List.mem_cons_self (by kernel_rfl)
   refine grow_call ((same10_on _ _ _ _ _ kd k1 k2 fs h2 (HEN1.out.ext hC)).mono ?_)
   rintro e w'' ⟨rfl, h1⟩
   exact ⟨_, rfl, h1, rfl⟩
  obtain ⟨_, _, rfl⟩ := hv6.head
  iterate 3
   (try simp only [Act.put, sqa, sqb, sqc])
   refine grow_run rfl rfl rfl ?_
   apply Exists.intro
   refine ⟨fun w' hC hK => ?_, ?_⟩
   ·have p0 := sqw hC p0
    have p1 := sqw hC p1
    have p2 := sqw hC p2
    have p3 := sqw hC p3
    have p4 := sqw hC p4
    go_simp
    rfl
  (try simp only [Act.put, sqa, sqb, sqc])
  refine grow_eff rfl rfl rfl (fun w' hC hK => ?_) (fun v10 hv10 => ?_)
  ·unfold growAt
   go_simp
   refine grow_call ((rsound_any w HVA.out 1000000 (.mk 5 0 ⟨#[]⟩ [] zs) (Nat.le_trans HSP.out.2 (by decide)) HSP.out.1.big _ _ _ (HEW.out.ext hC) (HV9.out.ext hC)).mono ?_)
   rintro e w'' ⟨rfl, h1⟩
   rw [SV.snd _ HSP.out.1]
   exact ⟨_, rfl, h1, rfl⟩
  obtain ⟨_, _, rfl⟩ := hv10.head
  iterate 2
   (try simp only [Act.put, sqa, sqb, sqc])
   refine grow_run rfl rfl rfl ?_
   apply Exists.intro
   refine ⟨fun w' hC hK => ?_, ?_⟩
   ·go_simp
    rfl
  refine grow_nil fun w14 hC _ => ?_
  have HZ := hid (HEW.out.ext (show Ext w13 w14 from hC))
  clear hC hv4 hv6 hv10
  go_wp2
  go_ret
  exact ⟨rfl, HZ.out⟩
end Go.Proofs.YtggkidnlmaindaaDoor
namespace Go.Proofs.YtggkidnlmaindaaDoor
open Go.ChangeShapes Go.WideShapes Go.ChangeAt Go.RowKit Go.Deep
theorem twice18_lift {Q : Prop} (lv : Value) (l : List Tk) (cs : Array Value) (r : Rc) (pick : Int) (w : World) (h0 : Sl ETok w (fun k => k < w.heap.size) lv l) (q0 : Q) (h1 : ERc.rd w (fun k => k < w.heap.size) cs.toList r) (q1 : ∀ a ∈ r.acts, Wfa a) (q2 : (Lit.int .u16 pick).wf = true) (hT : ValAny w ∧ DecAny w) :
  Calls Tryd.prog 6 #[lv, .agg cs, .int .u16 pick] w fun e w' => e = .returned (.bool true) ∧ Below w.heap.size w w' := by
 obtain ⟨vv, ov, av, e1, a1, a2, a3⟩ := h1
 exact (twice18_ok w _ _ lv (.agg cs) pick l r h0 ⟨vv, ov, av, by rw [← Array.toArray_toList (xs := cs), e1], a1, a2, a3⟩ q2 q1 hT.1 hT.2).mono fun e w' h => ⟨h.1, h.2.toBelow⟩
end Go.Proofs.YtggkidnlmaindaaDoor
