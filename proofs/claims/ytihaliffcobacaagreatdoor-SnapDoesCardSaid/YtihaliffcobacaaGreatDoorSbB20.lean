/- DiskG, DiskH, DiskI, DiskJ, DiskK: laid together. -/
import Derived.Test.YtihaliffcobacaaGreatDoorSbB18
import Derived.Test.YtihaliffcobacaaGreatDoorSbB19
import Derived.Test.YtihaliffcobacaaGreatDoorSbB7
import Derived.BigQuiet
import Derived.Lib.MinMax
set_option linter.unusedSimpArgs false
set_option linter.unusedVariables false
set_option maxHeartbeats 25600000
set_option maxRecDepth 20000
namespace Go.Proofs.YtihaliffcobacaaGreatDoor
open Go.RowKit Go.Maps
theorem eff_one {i j d : Nat} (hj : j ≠ i) (k : Nat) : ¬ M.effOf [(i, fun k => k = d)] j k := fun h => by
 obtain ⟨x, hx, h1, _⟩ := h
 rcases List.mem_cons.1 hx with rfl | hx
 ·exact hj h1.symm
 ·cases hx
theorem disk_append (w : World) (B : BS) (d : Nat) (cs : List DC) (s : DSt) (name : ByteArray) (bv : Value) (b : List UInt8) (S2 : BS) (h : DiskIs w B d cs s) (hb : BytesS w S2 bv b) (hz : name.size ≤ maxLen) :
  Calls Tryz.prog 14 #[.pointer (some ⟨d, 0, none⟩), .string name, bv] w (AppIs w B d cs s name.data.toList b) := by
 obtain ⟨h0, m, fs, hd, rfl⟩ := h
 obtain ⟨A, c, rfl, hlc, hcm⟩ := hb.shape
 unfold maxLen at hcm
 obtain ⟨R, fu, lf⟩ := s
 have HL := hid (show -1 ≤ lf ∧ lf ≤ 9223372036854775807 from h0.left)
 have HOK := hid (app_ok (name := name.data.toList) (b := b) h0 hd.pw)
 have HU0 := hid (show usedC (fs.map DF.c) ≤ 1048576 from Nat.le_trans h0.used h0.room)
 have HD := hid hd
 have HB := hid hb
 have HZ := hid hz
 have HROOM := hid (show R ≤ 1048576 from h0.room)
 have HMANY := hid h0.many
 obtain ⟨U, hU⟩ : ∃ U, usedC (fs.map DF.c) = U := ⟨_, rfl⟩
 have HU := hid hU
 obtain ⟨g, hg⟩ : ∃ g, goesC lf = g := ⟨_, rfl⟩
 have HG := hid hg
 clear h0 hd hb hz hU hg
 cases g with
 | false =>
  have HF := hid (show fullC (fs.map DF.c) ⟨R, fu, lf⟩ b.length = true by unfold fullC; rw [HG.out]; rfl)
  go_enter Tryz.func14, Tryz.ntmps14
  go_wp2_with fail
  refine M.wp_region_once [0] [1, 2, 3, 4, 5, 6, 7, 8, 9, 10, 11, 12, 13, 14, 15, 16, 17, 18, 19] [20] (M.specOf [(1, fun v w' => v = .bool false ∧ DiskAt w' B d m fs ⟨R, fu, leftC lf⟩)])
   (fun w' => Keep (· = d) w w') (fun i => Keep (M.effOf [(1, fun k => k = d)] i)) (M.onceOf 1 fun w' => DiskAt w' B d m fs ⟨R, fu, lf⟩)
   ?_ (M.stableC_keep (fun i k h => by obtain ⟨x, hx, _, h⟩ := h; rcases List.mem_cons.1 hx with rfl | hx; exact h; cases hx) _) ?_ (by kernel_rfl) (by kernel_rfl) (Keep.drew (Keep.refl _ _)) ?_ ?_
  ·exact M.stable_cons (fun j hj v w w' h he => ⟨h.1, h.2.keep he fun k _ => eff_one hj k⟩) M.stable_nil
  ·exact M.stableU_once fun j hj u u' h he => h.keep he fun k _ => eff_one hj k
  ·intro k _ e
   exact HD.out.keep ((Keep.refl (fun _ => False) w).drew) fun _ _ x => x
  iterate 1
   (try simp only [Act.put, sqa, sqb, sqc])
   refine M.pure_run rfl rfl ?_
   apply Exists.intro
   refine ⟨fun w' => ?_, ?_⟩
   ·go_simp
    rfl
  refine M.pure_nil ?_
  (try simp only [Act.put, sqa, sqb, sqc])
  refine M.u_eff rfl rfl rfl (fun w' hC hU hK => ?_) (fun v1 hv1 => ?_)
  ·unfold M.growAt
   go_simp
   refine M.grow_call ((disk_call' _ B d m fs ⟨R, fu, lf⟩ (hU rfl) HL.out).mono ?_)
   rintro e w'' ⟨rfl, h1, h2⟩
   exact ⟨_, rfl, h2.mono (fun k _ hk => ⟨_, List.mem_cons_self, rfl, hk⟩), by rw [HG.out], h1⟩
  obtain ⟨_, _, rfl, _⟩ := hv1
  iterate 2
   (try simp only [Act.put, sqa, sqb, sqc])
   refine M.u_run rfl rfl rfl ?_
   apply Exists.intro
   refine ⟨fun w' hC hU hK => ?_, ?_⟩
   ·go_simp
    rfl
  (try simp only [Act.put, sqa, sqb, sqc])
  with_reducible refine M.u_skip2 (some 12) ?_ ?_ ?_
  ·exact rfl
  ·exact rfl
  (try simp only [Act.put, sqa, sqb, sqc])
  with_reducible refine M.u_skip2 (some 13) ?_ ?_ ?_
  ·exact rfl
  ·exact rfl
  (try simp only [Act.put, sqa, sqb, sqc])
  with_reducible refine M.u_skip2 (some 14) ?_ ?_ ?_
  ·exact rfl
  ·exact rfl
  (try simp only [Act.put, sqa, sqb, sqc])
  with_reducible refine M.u_skip2 (some 15) ?_ ?_ ?_
  ·exact rfl
  ·exact rfl
  iterate 2
   (try simp only [Act.put, sqa, sqb, sqc])
   refine M.u_run rfl rfl rfl ?_
   apply Exists.intro
   refine ⟨fun w' hC hU hK => ?_, ?_⟩
   ·go_simp
    rfl
  (try simp only [Act.put, sqa, sqb, sqc])
  with_reducible refine M.u_skip2 (some 18) ?_ ?_ ?_
  ·exact rfl
  ·exact rfl
  (try simp only [Act.put, sqa, sqb, sqc])
  with_reducible refine M.u_skip2 (some 19) ?_ ?_ ?_
  ·exact rfl
  ·exact rfl
  (try simp only [Act.put, sqa, sqb, sqc])
  with_reducible refine M.u_skip2 (some 20) ?_ ?_ ?_
  ·exact rfl
  ·exact rfl
  (try simp only [Act.put, sqa, sqb, sqc])
  with_reducible refine M.u_skip2 (some 21) ?_ ?_ ?_
  ·exact rfl
  ·exact rfl
  (try simp only [Act.put, sqa, sqb, sqc])
  with_reducible refine M.u_skip2 (some 22) ?_ ?_ ?_
  ·exact rfl
  ·exact rfl
  (try simp only [Act.put, sqa, sqb, sqc])
  with_reducible refine M.u_skip2 (some 23) ?_ ?_ ?_
  ·exact rfl
  ·exact rfl
  (try simp only [Act.put, sqa, sqb, sqc])
  with_reducible refine M.u_skip2 (some 24) ?_ ?_ ?_
  ·exact rfl
  ·exact rfl
  (try simp only [Act.put, sqa, sqb, sqc])
  with_reducible refine M.u_skip2 (some 25) ?_ ?_ ?_
  ·exact rfl
  ·exact rfl
  (try simp only [Act.put, sqa, sqb, sqc])
  with_reducible refine M.u_skip2 (some 26) ?_ ?_ ?_
  ·exact rfl
  ·exact rfl
  (try simp only [Act.put, sqa, sqb, sqc])
  with_reducible refine M.u_skip2 (some 27) ?_ ?_ ?_
  ·exact rfl
  ·exact rfl
  refine M.u_nil fun wz hC hK => ?_
  have hd : DiskAt wz B d m fs ⟨R, fu, leftC lf⟩ := (hK (1, _) List.mem_cons_self).2
  have hC : Keep (· = d) w wz := hC
  have HDZ := hid hd
  have HKZ := hid hC
  clear hd hC hK
  change wpList _ _ _ (_ :: []) _ _
  (try simp only [Act.put, sqa, sqb, sqc])
  go_wp2_with fail
  refine NoPanic.normal ?_
  go_wp2
  go_ret
  have hA := appR_full (name := name.data.toList) (b := b) HF.out
  refine ⟨by rw [hA]; rfl, ?_, HKZ.out.mono fun k _ e => by subst e; exact HD.out.own⟩
  have hok := HOK.out
  rw [hA] at hok ⊢
  exact ⟨hok, m, fs, HDZ.out.more fun k hk h => .inl h, rfl⟩
 | true =>
  cases fu with
  | true =>
   have HF := hid (show fullC (fs.map DF.c) ⟨R, true, lf⟩ b.length = true by unfold fullC; simp)
   go_enter Tryz.func14, Tryz.ntmps14
   go_wp2_with fail
   refine M.wp_region_once [0] [1, 2, 3, 4, 5, 6, 7, 8, 9, 10, 11, 12, 13, 14, 15, 16, 17, 18, 19] [20] (M.specOf [(1, fun v w' => v = .bool true ∧ DiskAt w' B d m fs ⟨R, true, leftC lf⟩)])
    (fun w' => Keep (· = d) w w') (fun i => Keep (M.effOf [(1, fun k => k = d)] i)) (M.onceOf 1 fun w' => DiskAt w' B d m fs ⟨R, true, lf⟩)
    ?_ (M.stableC_keep (fun i k h => by obtain ⟨x, hx, _, h⟩ := h; rcases List.mem_cons.1 hx with rfl | hx; exact h; cases hx) _) ?_ (by kernel_rfl) (by kernel_rfl) (Keep.drew (Keep.refl _ _)) ?_ ?_
   ·exact M.stable_cons (fun j hj v w w' h he => ⟨h.1, h.2.keep he fun k _ => eff_one hj k⟩) M.stable_nil
   ·exact M.stableU_once fun j hj u u' h he => h.keep he fun k _ => eff_one hj k
   ·intro k _ e
    exact HD.out.keep ((Keep.refl (fun _ => False) w).drew) fun _ _ x => x
   iterate 1
    (try simp only [Act.put, sqa, sqb, sqc])
    refine M.pure_run rfl rfl ?_
    apply Exists.intro
    refine ⟨fun w' => ?_, ?_⟩
    ·go_simp
     rfl
   refine M.pure_nil ?_
   (try simp only [Act.put, sqa, sqb, sqc])
   refine M.u_eff rfl rfl rfl (fun w' hC hU hK => ?_) (fun v1 hv1 => ?_)
   ·unfold M.growAt
    go_simp
    refine M.grow_call ((disk_call' _ B d m fs ⟨R, true, lf⟩ (hU rfl) HL.out).mono ?_)
    rintro e w'' ⟨rfl, h1, h2⟩
    exact ⟨_, rfl, h2.mono (fun k _ hk => ⟨_, List.mem_cons_self, rfl, hk⟩), by rw [HG.out], h1⟩
   obtain ⟨_, _, rfl, _⟩ := hv1
   iterate 2
    (try simp only [Act.put, sqa, sqb, sqc])
    refine M.u_run rfl rfl rfl ?_
    apply Exists.intro
    refine ⟨fun w' hC hU hK => ?_, ?_⟩
    ·go_simp
     rfl
   iterate 5
    (try simp only [Act.put, sqa, sqb, sqc])
    refine M.u_run rfl rfl rfl ?_
    apply Exists.intro
    refine ⟨fun w' hC hU hK => ?_, ?_⟩
    ·have hd := (hK.get (i := 1) (List.mem_cons_self) (by kernel_rfl)).2
     obtain ⟨c0, c1, c2, c3⟩ := hd.cells
     go_simp
     rfl
   iterate 1
    (try simp only [Act.put, sqa, sqb, sqc])
    refine M.u_run rfl rfl rfl ?_
    apply Exists.intro
    refine ⟨fun w' hC hU hK => ?_, ?_⟩
    ·go_simp
     rfl
   (try simp only [Act.put, sqa, sqb, sqc])
   with_reducible refine M.u_skip2 (some 18) ?_ ?_ ?_
   ·exact rfl
   ·exact rfl
   (try simp only [Act.put, sqa, sqb, sqc])
   with_reducible refine M.u_skip2 (some 19) ?_ ?_ ?_
   ·exact rfl
   ·exact rfl
   (try simp only [Act.put, sqa, sqb, sqc])
   with_reducible refine M.u_skip2 (some 20) ?_ ?_ ?_
   ·exact rfl
   ·exact rfl
   (try simp only [Act.put, sqa, sqb, sqc])
   with_reducible refine M.u_skip2 (some 21) ?_ ?_ ?_
   ·exact rfl
   ·exact rfl
   (try simp only [Act.put, sqa, sqb, sqc])
   with_reducible refine M.u_skip2 (some 22) ?_ ?_ ?_
   ·exact rfl
   ·exact rfl
   (try simp only [Act.put, sqa, sqb, sqc])
   with_reducible refine M.u_skip2 (some 23) ?_ ?_ ?_
   ·exact rfl
   ·exact rfl
   (try simp only [Act.put, sqa, sqb, sqc])
   with_reducible refine M.u_skip2 (some 24) ?_ ?_ ?_
   ·exact rfl
   ·exact rfl
   (try simp only [Act.put, sqa, sqb, sqc])
   with_reducible refine M.u_skip2 (some 25) ?_ ?_ ?_
   ·exact rfl
   ·exact rfl
   (try simp only [Act.put, sqa, sqb, sqc])
   with_reducible refine M.u_skip2 (some 26) ?_ ?_ ?_
   ·exact rfl
   ·exact rfl
   (try simp only [Act.put, sqa, sqb, sqc])
   with_reducible refine M.u_skip2 (some 27) ?_ ?_ ?_
   ·exact rfl
   ·exact rfl
   refine M.u_nil fun wz hC hK => ?_
   have hd : DiskAt wz B d m fs ⟨R, true, leftC lf⟩ := (hK (1, _) List.mem_cons_self).2
   have hC : Keep (· = d) w wz := hC
   have HDZ := hid hd
   have HKZ := hid hC
   clear hd hC hK
   change wpList _ _ _ (_ :: []) _ _
   (try simp only [Act.put, sqa, sqb, sqc])
   go_wp2_with fail
   refine NoPanic.normal ?_
   go_wp2
   go_ret
   have hA := appR_full (name := name.data.toList) (b := b) HF.out
   refine ⟨by rw [hA]; rfl, ?_, HKZ.out.mono fun k _ e => by subst e; exact HD.out.own⟩
   have hok := HOK.out
   rw [hA] at hok ⊢
   exact ⟨hok, m, fs, HDZ.out.more fun k hk h => .inl h, rfl⟩
  | false =>
   obtain ⟨r, hr⟩ : ∃ r, decide ((R : Int) - U < b.length) = r := ⟨_, rfl⟩
   have HF := hid (show fullC (fs.map DF.c) ⟨R, false, lf⟩ b.length = r by unfold fullC; rw [HG.out, HU.out, hr]; simp)
   have hwr : IntKind.i64.wrap ((R : Int) - U) = (R : Int) - U := by
    have h1 := HROOM.out; have h2 := HU0.out; rw [HU.out] at h2
    rw [IntKind.wrap_i64]; omega
   cases r with
   | true =>
    go_enter Tryz.func14, Tryz.ntmps14
    go_wp2_with fail
    refine M.wp_region_once [0] [1, 2, 3, 4, 5, 6, 7, 8, 9, 10, 11, 12, 13, 14, 15, 16, 17, 18, 19] [20] (M.specOf [(1, fun v w' => v = .bool true ∧ DiskAt w' B d m fs ⟨R, false, leftC lf⟩), (17, fun v w' => v = .int .i64 (U : Int))])
     (fun w' => Keep (· = d) w w') (fun i => Keep (M.effOf [(1, fun k => k = d)] i)) (M.onceOf 1 fun w' => DiskAt w' B d m fs ⟨R, false, lf⟩)
     ?_ (M.stableC_keep (fun i k h => by obtain ⟨x, hx, _, h⟩ := h; rcases List.mem_cons.1 hx with rfl | hx; exact h; cases hx) _) ?_ (by kernel_rfl) (by kernel_rfl) (Keep.drew (Keep.refl _ _)) ?_ ?_
    ·exact M.stable_cons (fun j hj v w w' h he => ⟨h.1, h.2.keep he fun k _ => eff_one hj k⟩) (M.stable_cons (fun j hj v w w' h he => h) M.stable_nil)
    ·exact M.stableU_once fun j hj u u' h he => h.keep he fun k _ => eff_one hj k
    ·intro k _ e
     exact HD.out.keep ((Keep.refl (fun _ => False) w).drew) fun _ _ x => x
    iterate 1
     (try simp only [Act.put, sqa, sqb, sqc])
     refine M.pure_run rfl rfl ?_
     apply Exists.intro
     refine ⟨fun w' => ?_, ?_⟩
     ·go_simp
      rfl
    refine M.pure_nil ?_
    (try simp only [Act.put, sqa, sqb, sqc])
    refine M.u_eff rfl rfl rfl (fun w' hC hU hK => ?_) (fun v1 hv1 => ?_)
    ·unfold M.growAt
     go_simp
     refine M.grow_call ((disk_call' _ B d m fs ⟨R, false, lf⟩ (hU rfl) HL.out).mono ?_)
     rintro e w'' ⟨rfl, h1, h2⟩
     exact ⟨_, rfl, h2.mono (fun k _ hk => ⟨_, List.mem_cons_self, rfl, hk⟩), by rw [HG.out], h1⟩
    obtain ⟨_, _, rfl, _⟩ := hv1
    iterate 2
     (try simp only [Act.put, sqa, sqb, sqc])
     refine M.u_run rfl rfl rfl ?_
     apply Exists.intro
     refine ⟨fun w' hC hU hK => ?_, ?_⟩
     ·go_simp
      rfl
    iterate 5
     (try simp only [Act.put, sqa, sqb, sqc])
     refine M.u_run rfl rfl rfl ?_
     apply Exists.intro
     refine ⟨fun w' hC hU hK => ?_, ?_⟩
     ·have hd := (hK.get (i := 1) (List.mem_cons_self) (by kernel_rfl)).2
      obtain ⟨c0, c1, c2, c3⟩ := hd.cells
      go_simp
      rfl
    iterate 1
     (try simp only [Act.put, sqa, sqb, sqc])
     refine M.u_run rfl rfl rfl ?_
     apply Exists.intro
     refine ⟨fun w' hC hU hK => ?_, ?_⟩
     ·go_simp
      rfl
    iterate 7
     (try simp only [Act.put, sqa, sqb, sqc])
     refine M.u_run rfl rfl rfl ?_
     apply Exists.intro
     refine ⟨fun w' hC hU hK => ?_, ?_⟩
     ·have hd := (hK.get (i := 1) (List.mem_cons_self) (by kernel_rfl)).2
      obtain ⟨c0, c1, c2, c3⟩ := hd.cells
      go_simp
      rfl
    (try simp only [Act.put, sqa, sqb, sqc])
    refine M.u_eff rfl rfl rfl (fun w' hC hU hK => ?_) (fun v17 hv17 => ?_)
    ·unfold M.growAt
     go_simp
     refine M.grow_call ((disk_used _ B d m fs _ (hK.get (i := 1) List.mem_cons_self (by kernel_rfl)).2 HU0.out).mono ?_)
     rintro e w'' ⟨rfl, h1⟩
     exact ⟨_, rfl, h1.mono (fun k _ h => h.elim), by rw [HU.out]⟩
    obtain ⟨_, _, rfl⟩ := hv17
    iterate 2
     (try simp only [Act.put, sqa, sqb, sqc])
     refine M.u_run rfl rfl rfl ?_
     apply Exists.intro
     refine ⟨fun w' hC hU hK => ?_, ?_⟩
     ·go_simp
      rfl
    refine M.u_nil fun wz hC hK => ?_
    have hd : DiskAt wz B d m fs ⟨R, false, leftC lf⟩ := (hK (1, _) (List.mem_cons_of_mem _ List.mem_cons_self)).2
    have hC : Keep (· = d) w wz := hC
    have HDZ := hid hd
    have HKZ := hid hC
    clear hd hC hK
    change wpList _ _ _ (_ :: []) _ _
    (try simp only [Act.put, sqa, sqb, sqc])
    go_wp2_with fail
    refine NoPanic.normal ?_
    go_wp2
    go_ret
    have hA := appR_full (name := name.data.toList) (b := b) HF.out
    refine ⟨by rw [hA]; rfl, ?_, HKZ.out.mono fun k _ e => by subst e; exact HD.out.own⟩
    have hok := HOK.out
    rw [hA] at hok ⊢
    exact ⟨hok, m, fs, HDZ.out.more fun k hk h => .inl h, rfl⟩
   | false =>
    go_enter Tryz.func14, Tryz.ntmps14
    go_wp2_with fail
    refine M.wp_region_once [0] [1, 2, 3, 4, 5, 6, 7, 8, 9, 10, 11, 12, 13, 14, 15, 16, 17, 18, 19] [20] (M.specOf [(1, fun v w' => v = .bool true ∧ DiskAt w' B d m fs ⟨R, false, leftC lf⟩), (17, fun v w' => v = .int .i64 (U : Int))])
     (fun w' => Keep (· = d) w w') (fun i => Keep (M.effOf [(1, fun k => k = d)] i)) (M.onceOf 1 fun w' => DiskAt w' B d m fs ⟨R, false, lf⟩)
     ?_ (M.stableC_keep (fun i k h => by obtain ⟨x, hx, _, h⟩ := h; rcases List.mem_cons.1 hx with rfl | hx; exact h; cases hx) _) ?_ (by kernel_rfl) (by kernel_rfl) (Keep.drew (Keep.refl _ _)) ?_ ?_
    ·exact M.stable_cons (fun j hj v w w' h he => ⟨h.1, h.2.keep he fun k _ => eff_one hj k⟩) (M.stable_cons (fun j hj v w w' h he => h) M.stable_nil)
    ·exact M.stableU_once fun j hj u u' h he => h.keep he fun k _ => eff_one hj k
    ·intro k _ e
     exact HD.out.keep ((Keep.refl (fun _ => False) w).drew) fun _ _ x => x
    iterate 1
     (try simp only [Act.put, sqa, sqb, sqc])
     refine M.pure_run rfl rfl ?_
     apply Exists.intro
     refine ⟨fun w' => ?_, ?_⟩
     ·go_simp
      rfl
    refine M.pure_nil ?_
    (try simp only [Act.put, sqa, sqb, sqc])
    refine M.u_eff rfl rfl rfl (fun w' hC hU hK => ?_) (fun v1 hv1 => ?_)
    ·unfold M.growAt
     go_simp
     refine M.grow_call ((disk_call' _ B d m fs ⟨R, false, lf⟩ (hU rfl) HL.out).mono ?_)
     rintro e w'' ⟨rfl, h1, h2⟩
     exact ⟨_, rfl, h2.mono (fun k _ hk => ⟨_, List.mem_cons_self, rfl, hk⟩), by rw [HG.out], h1⟩
    obtain ⟨_, _, rfl, _⟩ := hv1
    iterate 2
     (try simp only [Act.put, sqa, sqb, sqc])
     refine M.u_run rfl rfl rfl ?_
     apply Exists.intro
     refine ⟨fun w' hC hU hK => ?_, ?_⟩
     ·go_simp
      rfl
    iterate 5
     (try simp only [Act.put, sqa, sqb, sqc])
     refine M.u_run rfl rfl rfl ?_
     apply Exists.intro
     refine ⟨fun w' hC hU hK => ?_, ?_⟩
     ·have hd := (hK.get (i := 1) (List.mem_cons_self) (by kernel_rfl)).2
      obtain ⟨c0, c1, c2, c3⟩ := hd.cells
      go_simp
      rfl
    iterate 1
     (try simp only [Act.put, sqa, sqb, sqc])
     refine M.u_run rfl rfl rfl ?_
     apply Exists.intro
     refine ⟨fun w' hC hU hK => ?_, ?_⟩
     ·go_simp
      rfl
    iterate 7
     (try simp only [Act.put, sqa, sqb, sqc])
     refine M.u_run rfl rfl rfl ?_
     apply Exists.intro
     refine ⟨fun w' hC hU hK => ?_, ?_⟩
     ·have hd := (hK.get (i := 1) (List.mem_cons_self) (by kernel_rfl)).2
      obtain ⟨c0, c1, c2, c3⟩ := hd.cells
      go_simp
      rfl
    (try simp only [Act.put, sqa, sqb, sqc])
    refine M.u_eff rfl rfl rfl (fun w' hC hU hK => ?_) (fun v17 hv17 => ?_)
    ·unfold M.growAt
     go_simp
     refine M.grow_call ((disk_used _ B d m fs _ (hK.get (i := 1) List.mem_cons_self (by kernel_rfl)).2 HU0.out).mono ?_)
     rintro e w'' ⟨rfl, h1⟩
     exact ⟨_, rfl, h1.mono (fun k _ h => h.elim), by rw [HU.out]⟩
    obtain ⟨_, _, rfl⟩ := hv17
    iterate 2
     (try simp only [Act.put, sqa, sqb, sqc])
     refine M.u_run rfl rfl rfl ?_
     apply Exists.intro
     refine ⟨fun w' hC hU hK => ?_, ?_⟩
     ·go_simp
      rfl
    refine M.u_nil fun wz hC hK => ?_
    have hd : DiskAt wz B d m fs ⟨R, false, leftC lf⟩ := (hK (1, _) (List.mem_cons_of_mem _ List.mem_cons_self)).2
    have hC : Keep (· = d) w wz := hC
    have HDZ := hid hd
    have HKZ := hid hC
    clear hd hC hK
    change wpList _ _ _ (_ :: []) _ _
    (try simp only [Act.put, sqa, sqb, sqc])
    go_wp2_with fail
    refine NoPanic.normal ?_
    have HRB := hid (show U + b.length ≤ R from by simp at hr; omega)
    have HBZ := hid (((bytes_apart HB.out HD.out.blk (dsk_noU8 _ _ _ _)).keep EU8.ok HKZ.out fun k hk e => hk.2 e))
    have hlook := HDZ.out.map.look (name := name) HZ.out
    obtain ⟨c0, c1, c2, c3⟩ := HDZ.out.cells
    have hpe := eql_pfi
    obtain ⟨o, ho⟩ : ∃ o, findF fs name.data.toList = o := ⟨_, rfl⟩
    rw [ho] at hlook
    have HO := hid ho
    clear hr hwr ho c1 c2 c3 HB
    cases o with
    | some f =>
     replace hlook : (Instr.lookup TMAP (.map (some m)) (.string name) false).run Tryz.prog wz = .ok (.pointer (some ⟨f.blk, 0, none⟩)) wz := hlook
     have HME := hid (findF_some HO.out)
     obtain ⟨Af, kf, q0, _, hfb, hfl, _, _, hfblk⟩ := (HDZ.out.files f HME.out.1).2.cells
     have HFB := hid hfblk
     have HFL := hid hfl
     have hv2 := sl_two (w := wz) (t := 46) (f := (0, 0)) (bytes_any hfb) (bytes_any HBZ.out)
     have HV2 := hid hv2
     clear hfb hfl hfblk hv2
     go_wp2_with fail
     refine (concat_any _ _ _ _ HV2.out (by
      have h1 := mem_usedC (List.mem_map_of_mem (f := DF.c) HME.out.1)
      have h2 := HRB.out; have h3 := HROOM.out; have h4 := HU.out
      simp only [List.flatten_cons, List.flatten_nil, List.append_nil, List.length_append]
      omega)).mono ?_
     rintro e w3 ⟨v', rfl, hown, hE⟩
     have hfl2 : [f.c.b, b].flatten = f.c.b ++ b := by simp
     rw [hfl2] at hown
     obtain ⟨A3, k3, rfl, _⟩ := hown.shape
     generalize hn3 : (f.c.b ++ b).length = n3 at *
     have hE3 : Ext wz w3 := ((Keep.refl (fun _ => False) wz).alloc _).ext hE
     have hsl := (hown.sl EU8.ok).more (S' := fun k => wz.heap.size ≤ k) EU8.ok (fun k _ h => by
      rcases h with h | h
      ·exact h.elim
      ·have := (hown.lt h).1; simp at this; omega)
     have q0' := (hE3.cell (lt_of_cell q0) id).trans q0
     have hfz := (HFB.out.keep hE3 id).frozen
     have HD4 := hid (HDZ.out.setBytes hE3 HO.out (g := moreC b) (fun _ => rfl) hsl rfl (by have := HFL.out; show f.c.l ≤ (f.c.b ++ b).length; simp; omega))
     have HK4 := hid (show Keep B w (w3.setCell ⟨f.blk, 0, none⟩ (.slice A3 n3 k3)) from
      ((HKZ.out.mono fun k _ e => by subst e; exact HD.out.own).ext hE3).trans ((Keep.refl (· = f.blk) w3).set1 0 _) fun k _ e => by subst e; exact (HDZ.out.files f HME.out.1).1)
     have HSZ := hid (show wz.heap.size ≤ w3.heap.size ∧ w.heap.size ≤ wz.heap.size from ⟨hE3.size, HKZ.out.size⟩)
     clear hown hE hE3 hsl q0 hlook c0 hfl2 hn3
     go_wp2
     go_ret
     have hA := appR_has (name := name.data.toList) HF.out (by rw [hasC_map, HO.out]; rfl)
     refine ⟨by rw [hA]; rfl, ?_, HK4.out⟩
     have hok := HOK.out
     rw [hA] at hok ⊢
     refine ⟨hok, m, _, HD4.out.more fun k hk h => ?_, updF_c _ _ _⟩
     rcases h with h | h
     ·exact .inl h
     ·have := HSZ.out; refine .inr ⟨by omega, ?_⟩; simpa using h.2
    | none =>
     replace hlook : (Instr.lookup TMAP (.map (some m)) (.string name) false).run Tryz.prog wz = .ok (.pointer none) wz := hlook
     have HNO := hid (findF_none HO.out)
     go_wp2_with fail
     refine (disk_fresh wz B d m fs _ name HDZ.out HZ.out).mono ?_
     obtain ⟨r, hr⟩ : ∃ r, mayC fs.length name.data.toList = r := ⟨_, rfl⟩
     have HR := hid hr
     rw [hr]
     clear hr
     rintro e w2 ⟨rfl, rfl⟩
     have hhas : hasC (fs.map DF.c) name.data.toList = false := by rw [hasC_map, HO.out]; rfl
     have HHAS := hid hhas
     clear hhas hlook
     cases r with
     | false =>
      go_wp2
      go_ret
      have hA := appR_no (name := name.data.toList) (b := b) HF.out HHAS.out (by rw [List.length_map]; exact HR.out)
      refine ⟨by rw [hA]; rfl, ?_, HKZ.out.mono fun k _ e => by subst e; exact HD.out.own⟩
      have hok := HOK.out
      rw [hA] at hok ⊢
      exact ⟨hok, m, fs, HDZ.out.more fun k hk h => .inl h, rfl⟩
     | true =>
      have HE1 := hid (show Ext wz (wz.alloc (.cells #[.slice none 0 0, .int .i64 0] TFIL)) from (Keep.refl _ _).alloc _)
      have HM := hid (HDZ.out.map.keep HE1.out id)
      have c0' := (HE1.out.cell (lt_of_cell c0) id).trans c0
      have HBN := hid (Blk.new wz TFIL #[.slice none 0 0, .int .i64 0])
      have hne : wz.heap.size ≠ m := by have := HDZ.out.map.lt; omega
      have HNE := hid hne
      clear hne
      go_wp2_with (at_mapUpdate; refine wpList_store_files rfl _ _ _ rfl m fs rfl HM.out name rfl HZ.out (by have := HMANY.out; rw [List.length_map] at this; unfold maxLen; omega) HNO.out ⟨⟨name.data.toList, [], 0⟩, wz.heap.size⟩ rfl rfl ?_; intro w4 hm4 hk4; have HM4 := hid hm4; have HK4 := hid hk4; have hbn4 := HBN.out.keep hk4 HNE.out; have HBN4 := hid hbn4; have q0 : w4.cell? ⟨wz.heap.size, 0, none⟩ = some (.slice none 0 0) := hbn4.cell 0)
      have HB4 := hid (((bytes_notmap HBZ.out HDZ.out.map).ext EU8.ok HE1.out).keep EU8.ok hk4 fun k h e => h.2 e)
      have hv2 := sl_two (w := w4) (t := 46) (f := (0, 0)) (Sl.nil (E := EU8) w4 (fun _ => True)) (bytes_any HB4.out)
      have HV2 := hid hv2
      clear hm4 hk4 hbn4 hv2 c0 c0'
      refine (concat_any _ _ _ _ HV2.out (by
       have h2 := HRB.out; have h3 := HROOM.out
       simp only [List.flatten_cons, List.flatten_nil, List.append_nil, List.length_append, List.length_nil]
       omega)).mono ?_
      rintro e w3 ⟨v', rfl, hown, hE⟩
      have hfl2 : [([] : List UInt8), b].flatten = b := by simp
      rw [hfl2] at hown
      obtain ⟨A3, k3, rfl, _⟩ := hown.shape
      have hE3 : Ext w4 w3 := ((Keep.refl (fun _ => False) w4).alloc _).ext hE
      have hws : wz.heap.size < w4.heap.size := HBN4.out.lt
      have hsl := (hown.sl EU8.ok).more (S' := fun k => w4.heap.size ≤ k) EU8.ok (fun k _ h => by
       rcases h with h | h
       ·exact h.elim
       ·have := (hown.lt h).1; simp at this; omega)
      have q0' := (hE3.cell (lt_of_cell q0) id).trans q0
      have hb3 := HBN4.out.keep hE3 id
      have hfz := hb3.frozen
      have hks : Keep (· = wz.heap.size) w3 (w3.setCell ⟨wz.heap.size, 0, none⟩ (.slice A3 b.length k3)) := (Keep.refl _ _).set1 0 _
      have hkw : Keep (· = m) wz (w3.setCell ⟨wz.heap.size, 0, none⟩ (.slice A3 b.length k3)) :=
       ((((Keep.refl (· = m) wz).ext HE1.out).trans HK4.out fun _ _ e => e).ext hE3).trans hks fun k hk e => by omega
      have hst := hb3.set_ 0 (.slice A3 b.length k3)
      have HD4 := hid (HDZ.out.addFile (x := ⟨⟨name.data.toList, b, 0⟩, wz.heap.size⟩)
       (((HM4.out.keep hE3 id).keep hks fun e => HNE.out e.symm).same (ins_ent (by rfl) fs)) hkw (Nat.le_refl _)
       ⟨.slice A3 b.length k3, by simpa using hst, (hsl.keep EU8.ok hks fun k h e => by omega).more EU8.ok fun k hk h => ⟨by omega, by show k ≠ wz.heap.size; omega⟩, Nat.zero_le _⟩)
      have HKF := hid (show Keep B w (w3.setCell ⟨wz.heap.size, 0, none⟩ (.slice A3 b.length k3)) from
       (HKZ.out.mono fun k _ e => by subst e; exact HD.out.own).trans hkw fun k _ e => by subst e; exact HDZ.out.ownm)
      have HSZ := hid (show w.heap.size ≤ wz.heap.size from HKZ.out.size)
      clear hown hE hE3 hsl q0 hfl2 hb3 hks hkw hst hws
      go_wp2
      go_ret
      have hA := appR_new (name := name.data.toList) (b := b) HF.out HHAS.out (by rw [List.length_map]; exact HR.out)
      refine ⟨by rw [hA]; rfl, ?_, HKF.out⟩
      have hok := HOK.out
      rw [hA] at hok ⊢
      refine ⟨hok, m, _, HD4.out.more fun k hk h => ?_, insF_c _ _⟩
      rcases h with h | h
      ·exact .inl h
      ·have := HSZ.out; refine .inr ⟨by omega, ?_⟩; simpa using h.2
end Go.Proofs.YtihaliffcobacaaGreatDoor
namespace Go.Proofs.YtihaliffcobacaaGreatDoor
open Go.RowKit Go.Maps
def rowsB (B : BS) (d m : Nat) (fs : List DF) : BS := fun k => B k ∧ k ≠ d ∧ k ≠ m ∧ ∀ g ∈ fs, k ≠ g.blk
theorem DiskAt.setFile {w w' : World} {B : BS} {d m : Nat} {fs : List DF} {s : DSt} {name : List UInt8} (h : DiskAt w B d m fs s) {f : DF} (hf : findF fs name = some f) (hk : Keep (· = f.blk) w w') {g : DC → DC} (hg : ∀ c, (g c).name = c.name) {v : Value}
  (hb : Blk w' f.blk TFIL #[v, .int .i64 ((g f.c).l : Int)]) (hv : BytesS w (rowsB B d m fs) v (g f.c).b) (hle : (g f.c).l ≤ (g f.c).b.length) : DiskAt w' B d m (updF g fs name) s := by
 obtain ⟨hmem, hname⟩ := findF_some hf
 have hnd := h.ned hmem
 refine ⟨h.own, h.ownm, h.blk.keep hk (fun e => hnd.1 e.symm), (h.map.keep hk (fun e => hnd.2 e.symm)).upd hg name, ?_, apart_updF h.apart⟩
 intro x hx
 obtain ⟨y, hy, eb, ex⟩ := mem_updF hx
 obtain ⟨hB, hfy⟩ := h.files y hy
 refine ⟨by rw [eb]; exact hB, ?_⟩
 have hS : ∀ k, rowsB B d m fs k → B k ∧ k ≠ d ∧ k ≠ m ∧ ∀ g' ∈ updF g fs name, k ≠ g'.blk := fun k hk => ⟨hk.1, hk.2.1, hk.2.2.1, (blk_updF (p := fun b => ¬ k = b)).2 hk.2.2.2⟩
 by_cases hyn : y.c.name = name
 ·have hyf : y = f := eq_of_pw h.map.names hy hmem (hyn.trans hname.symm)
  subst hyf
  rw [if_pos hyn] at ex
  subst ex
  exact ⟨v, hb, (hv.keep EU8.ok hk fun k hk e => hk.2.2.2 y hmem e).more EU8.ok fun k _ h => hS k h, hle⟩
 ·rw [if_neg hyn] at ex
  subst ex
  have hne : x.blk ≠ f.blk := fun e => hyn ((eq_of_pw (p := DF.blk) h.apart hy hmem e).symm ▸ hname)
  exact (hfy.keep hk hne fun k hk e => hk.2.2.2 f hmem e).more fun k _ h => hS k h
theorem disk_with (w : World) (B : BS) (d m : Nat) (fs : List DF) (s : DSt) (name : ByteArray) (F : FuncId) (cap : Array Value) (Q : Ending → World → Prop) (h : DiskAt w B d m fs s) (hl : -1 ≤ s.left ∧ s.left ≤ 9223372036854775807) (hz : name.size ≤ maxLen) (hF : ∀ (args : Array Value) (w : World), (callFunc F args).run Tryz.prog w = .ok (.enter F args) w)
  (h130 : ∀ wz, goesC s.left = false → DiskAt wz B d m fs { s with left := leftC s.left } → Keep (· = d) w wz → Q (.returned (.int .u16 130)) wz)
  (h131 : ∀ wz, goesC s.left = true → findF fs name.data.toList = none → DiskAt wz B d m fs { s with left := leftC s.left } → Keep (· = d) w wz → Q (.returned (.int .u16 131)) wz)
  (hdo : ∀ wz f, goesC s.left = true → findF fs name.data.toList = some f → DiskAt wz B d m fs { s with left := leftC s.left } → Keep (· = d) w wz → Calls Tryz.prog F (#[.pointer (some ⟨f.blk, 0, none⟩)] ++ cap) wz fun e w' => ∃ r : Int, e = .returned (.int .u16 r) ∧ Q e w') :
  Calls Tryz.prog 59 #[.pointer (some ⟨d, 0, none⟩), .string name, .func (.func F) #[] cap] w Q := by
 have HD := hid h
 have HL := hid hl
 have HZ := hid hz
 have H130 := hid h130
 have H131 := hid h131
 have HDO := hid hdo
 obtain ⟨g, hg⟩ : ∃ g, goesC s.left = g := ⟨_, rfl⟩
 have HG := hid hg
 clear h hl hz h130 h131 hdo hg
 go_enter Tryz.func59, Tryz.ntmps59
 go_wp2_with fail
 refine (disk_call' w B d m fs s HD.out HL.out).mono ?_
 rw [HG.out]
 rintro e wz ⟨rfl, hdz, hkz⟩
 have HDZ := hid hdz
 have HKZ := hid hkz
 clear hdz hkz
 cases g with
 | false =>
  go_wp2
  exact H130.out _ HG.out HDZ.out HKZ.out
 | true =>
  have hlook := HDZ.out.map.look (name := name) HZ.out
  obtain ⟨c0, _, _, _⟩ := HDZ.out.cells
  have hpe := eql_pfi
  obtain ⟨o, ho⟩ : ∃ o, findF fs name.data.toList = o := ⟨_, rfl⟩
  rw [ho] at hlook
  have HO := hid ho
  clear ho
  cases o with
  | none =>
   replace hlook : (Instr.lookup TMAP (.map (some m)) (.string name) false).run Tryz.prog wz = .ok (.pointer none) wz := hlook
   go_wp2
   exact H131.out _ HG.out HO.out HDZ.out HKZ.out
  | some f =>
   replace hlook : (Instr.lookup TMAP (.map (some m)) (.string name) false).run Tryz.prog wz = .ok (.pointer (some ⟨f.blk, 0, none⟩)) wz := hlook
   go_wp2_with fail
   refine (HDO.out wz f HG.out HO.out HDZ.out HKZ.out).mono ?_
   rintro e w3 ⟨r, rfl, hq⟩
   have HQ := hid hq
   clear hq hlook c0
   go_wp2
   exact HQ.out
def syncC (c : DC) : DC := { c with l := c.b.length }
def syncR (cs : List DC) (s : DSt) (name : List UInt8) : Int × List DC := if goesC s.left = false then (130, cs) else if hasC cs name then (0, updC syncC cs name) else (131, cs)
def SyncIs (w : World) (B : BS) (d : Nat) (cs : List DC) (s : DSt) (name : List UInt8) (e : Ending) (w' : World) : Prop :=
 e = .returned (.int .u16 (syncR cs s name).1) ∧ DiskIs w' B d (syncR cs s name).2 { s with left := leftC s.left } ∧ Keep B w w'
theorem upd_ok {cs : List DC} {s : DSt} {g : DC → DC} {name : List UInt8} (h : DOk cs s) (hg : ∀ c, (g c).name = c.name) (hl : ∀ c, (g c).b.length ≤ c.b.length) : DOk (updC g cs name) { s with left := leftC s.left } := by
 refine ⟨h.room, ?_, by show (updC g cs name).length ≤ 64; unfold updC; rw [List.length_map]; exact h.many, ?_, leftC_ok h.left⟩
 ·refine Nat.le_trans ?_ h.used
  show usedC (updC g cs name) ≤ usedC cs
  clear h
  unfold updC
  induction cs with
  | nil => exact Nat.le_refl _
  | cons x r ih =>
   rw [List.map_cons, usedC_cons, usedC_cons]
   have : (if x.name = name then g x else x).b.length ≤ x.b.length := by
    split
    ·exact hl x
    ·exact Nat.le_refl _
   omega
 ·intro x hx
  obtain ⟨y, hy, e⟩ := List.mem_map.1 hx
  have := h.names y hy
  subst e
  split
  ·rw [hg]; exact this
  ·exact this
theorem sync1_ok (w : World) (S : BS) (b : Nat) (c : DC) (h : FileAt w S b c) :
  Calls Tryz.prog 60 #[.pointer (some ⟨b, 0, none⟩)] w fun e w' => e = .returned (.int .u16 0) ∧ w' = w.setCell ⟨b, 1, none⟩ (.int .i64 (c.b.length : Int)) := by
 obtain ⟨A, k, q0, q1, _, _, _, _, hb⟩ := h.cells
 have hz := hb.frozen
 go_enter Tryz.func60, Tryz.ntmps60
 go_wp2
 go_ret
 exact ⟨rfl, rfl⟩
theorem disk_sync (w : World) (B : BS) (d : Nat) (cs : List DC) (s : DSt) (name : ByteArray) (h : DiskIs w B d cs s) (hz : name.size ≤ maxLen) :
  Calls Tryz.prog 28 #[.pointer (some ⟨d, 0, none⟩), .string name] w (SyncIs w B d cs s name.data.toList) := by
 obtain ⟨h0, m, fs, hd, rfl⟩ := h
 have hkd : ∀ {wz : World}, Keep (· = d) w wz → Keep B w wz := fun hk => hk.mono fun k _ e => by subst e; exact hd.own
 have HW := hid (disk_with w B d m fs s name 60 #[] (SyncIs w B d (fs.map DF.c) s name.data.toList) hd h0.left hz (fun _ _ => by go_simp)
  (fun wz hg hz hk => by
   have e : syncR (fs.map DF.c) s name.data.toList = (130, fs.map DF.c) := by rw [syncR, if_pos hg]
   exact ⟨by rw [e], by rw [e]; exact ⟨h0.left', m, fs, hz, rfl⟩, hkd hk⟩)
  (fun wz hg ho hz hk => by
   have e : syncR (fs.map DF.c) s name.data.toList = (131, fs.map DF.c) := by rw [syncR, if_neg (by simp [hg]), if_neg (by rw [hasC_map, ho]; simp)]
   exact ⟨by rw [e], by rw [e]; exact ⟨h0.left', m, fs, hz, rfl⟩, hkd hk⟩)
  (fun wz f hg ho hz hk => by
   have e : syncR (fs.map DF.c) s name.data.toList = (0, updC syncC (fs.map DF.c) name.data.toList) := by rw [syncR, if_neg (by simp [hg]), if_pos (by rw [hasC_map, ho]; rfl)]
   have hf := (hz.files f (findF_some ho).1)
   refine (sync1_ok wz _ f.blk f.c hf.2).mono ?_
   rintro e1 w' ⟨rfl, rfl⟩
   obtain ⟨A, k, _, _, hs, hle, _, _, hb⟩ := hf.2.cells
   have hk2 : Keep (· = f.blk) wz (wz.setCell ⟨f.blk, 1, none⟩ (.int .i64 (f.c.b.length : Int))) := (Keep.refl _ _).set1 1 _
   refine ⟨0, rfl, by rw [e], ?_, (hkd hk).trans hk2 fun k _ e => by subst e; exact hf.1⟩
   rw [e]
   refine ⟨upd_ok h0 (fun _ => rfl) (fun _ => Nat.le_refl _), m, _, hz.setFile ho hk2 (g := syncC) (fun _ => rfl) (v := .slice A f.c.b.length k) ?_ hs (Nat.le_refl _), updF_c _ _ _⟩
   have := hb.set_ 1 (.int .i64 (f.c.b.length : Int))
   show Blk _ _ TFIL #[.slice A f.c.b.length k, .int .i64 (f.c.b.length : Int)]
   simpa using this))
 clear h0 hd hz hkd
 go_enter Tryz.func28, Tryz.ntmps28
 go_wp2_with fail
 refine HW.out.mono ?_
 rintro e w2 h2
 obtain ⟨r, hr⟩ : ∃ r, (syncR (fs.map DF.c) s name.data.toList).1 = r := ⟨_, rfl⟩
 have HR := hid hr
 have HX := hid h2
 have h2 := h2.1
 rw [hr] at h2
 subst h2
 clear hr
 go_wp2
 go_ret
 exact ⟨by rw [HR.out]; rfl, HX.out.2⟩
def findC (cs : List DC) (name : List UInt8) : Option DC := cs.find? fun c => c.name == name
theorem findC_map (fs : List DF) (n : List UInt8) : findC (fs.map DF.c) n = (findF fs n).map DF.c := by
 unfold findC findF
 rw [List.find?_map]
 rfl
def readR (cs : List DC) (name : List UInt8) : Int × List UInt8 := match findC cs name with
 | none => (131, [])
 | some c => (0, c.b)
def ReadIs (w : World) (cs : List DC) (name : List UInt8) (e : Ending) (w' : World) : Prop := ∃ A k, e = .returned (.tuple #[.slice A (readR cs name).2.length k, .int .u16 (readR cs name).1]) ∧ BytesS w' (fun q => w.heap.size ≤ q) (.slice A (readR cs name).2.length k) (readR cs name).2 ∧ Ext w w'
theorem disk_read (w : World) (B : BS) (d : Nat) (cs : List DC) (s : DSt) (name : ByteArray) (h : DiskIs w B d cs s) (hz : name.size ≤ maxLen) :
  Calls Tryz.prog 29 #[.pointer (some ⟨d, 0, none⟩), .string name] w (ReadIs w cs name.data.toList) := by
 obtain ⟨h0, m, fs, hd, rfl⟩ := h
 have hlook := hd.map.look (name := name) hz
 obtain ⟨c0, _, _, _⟩ := hd.cells
 have hpe := eql_pfi
 have HD := hid hd
 have HOK := hid h0
 obtain ⟨o, ho⟩ : ∃ o, findF fs name.data.toList = o := ⟨_, rfl⟩
 rw [ho] at hlook
 have HO := hid ho
 clear ho hd h0 hz
 cases o with
 | none =>
  replace hlook : (Instr.lookup TMAP (.map (some m)) (.string name) false).run Tryz.prog w = .ok (.pointer none) w := hlook
  have HR := hid (show readR (fs.map DF.c) name.data.toList = (131, []) by unfold readR; rw [findC_map, HO.out]; rfl)
  go_enter Tryz.func29, Tryz.ntmps29
  go_wp2_with fail
  refine bodyPost_ret (v := .tuple #[.slice none 0 0, .int .u16 131]) (by simp [results, Tryz.results29, go_sem]) rfl ?_
  unfold ReadIs
  rw [HR.out]
  exact ⟨none, 0, rfl, Sl.nil _ _, Keep.refl _ _⟩
 | some f =>
  replace hlook : (Instr.lookup TMAP (.map (some m)) (.string name) false).run Tryz.prog w = .ok (.pointer (some ⟨f.blk, 0, none⟩)) w := hlook
  have HR := hid (show readR (fs.map DF.c) name.data.toList = (0, f.c.b) by unfold readR; rw [findC_map, HO.out]; rfl)
  have hmem := (findF_some HO.out).1
  obtain ⟨A, k, q0, q1, hs, _, _, _, _⟩ := (HD.out.files f hmem).2.cells
  have HS := hid hs
  have HU := hid (show f.c.b.length ≤ 1048576 from Nat.le_trans (mem_usedC (List.mem_map_of_mem (f := DF.c) hmem)) (Nat.le_trans HOK.out.used HOK.out.room))
  clear hs hmem
  go_enter Tryz.func29, Tryz.ntmps29
  go_wp2_with fail
  refine (clone_bytes _ _ _ _ HS.out (by have := HU.out; omega)).mono ?_
  rintro e w2 ⟨v', rfl, hb, hE⟩
  obtain ⟨A2, k2, rfl, _⟩ := hb.shape
  have HB := hid hb
  have HE := hid hE
  clear hb hE hlook c0 q0 q1
  go_wp2_with fail
  refine bodyPost_ret (v := .tuple #[.slice A2 f.c.b.length k2, .int .u16 0]) (by simp [results, Tryz.results29, go_sem]) rfl ?_
  unfold ReadIs
  rw [HR.out]
  exact ⟨A2, k2, rfl, HB.out, HE.out⟩
end Go.Proofs.YtihaliffcobacaaGreatDoor
namespace Go.Proofs.YtihaliffcobacaaGreatDoor
open Go.RowKit Go.Maps
theorem BytesS.front {w : World} {S : BS} {A : Option Addr} {k : Nat} {l : List UInt8} (h : BytesS w S (.slice A l.length k) l) {n : Nat} (hn : n ≤ l.length) : BytesS w S (.slice A n n) (l.take n) := by
 obtain ⟨cs, hr, hc⟩ := Sl.front EU8.ok h hn
 have hl : (l.take n).length = n := by rw [List.length_take]; omega
 rw [hl] at hr
 obtain ⟨h0, A', c', e, h1, h2, h3⟩ := hr
 injection e with e1 _ e3
 subst e1 e3
 refine ⟨cs, ?_, hc⟩
 rw [hl]
 exact ⟨h0, A, n, rfl, Nat.le_refl _, by omega, h3⟩
def cutC (n : Nat) (c : DC) : DC := { c with b := c.b.take n, l := min c.l n }
def cutR (cs : List DC) (s : DSt) (name : List UInt8) (n : Int) : Int × List DC := if goesC s.left = false then (130, cs) else match findC cs name with
 | none => (131, cs)
 | some c => if n < 0 ∨ (c.b.length : Int) < n then (1, cs) else (0, updC (cutC n.toNat) cs name)
end Go.Proofs.YtihaliffcobacaaGreatDoor
namespace Go.Proofs.YtihaliffcobacaaGreatDoor
open Go.RowKit Go.Maps
end Go.Proofs.YtihaliffcobacaaGreatDoor
namespace Go.Proofs.YtihaliffcobacaaGreatDoor
open Go.RowKit Go.Maps
end Go.Proofs.YtihaliffcobacaaGreatDoor
