/- Package disk: Append, by contract: the walk. -/
import Derived.Test.YtikophoopapngaaDiskE
import Derived.Test.YtikophoopapngaaGrowU
set_option linter.unusedSimpArgs false
set_option linter.unusedVariables false
namespace Go.Proofs.Ytikophoopapngaa
open Go.RowKit Go.Maps
set_option linter.unusedVariables false

theorem eff_one {i j d : Nat} (hj : j ≠ i) (k : Nat) : ¬ M.effOf [(i, fun k => k = d)] j k := fun h => by
  obtain ⟨x, hx, h1, _⟩ := h
  rcases List.mem_cons.1 hx with rfl | hx
  · exact hj h1.symm
  · cases hx

set_option maxRecDepth 20000 in
set_option maxHeartbeats 6400000 in
theorem disk_append (w : World) (B : BS) (d : Nat) (cs : List DC) (s : DSt) (name : ByteArray) (bv : Value) (b : List UInt8) (S2 : BS) (h : DiskIs w B d cs s) (hb : BytesS w S2 bv b) (hz : name.size ≤ maxLen) :
    Calls Try.prog 11 #[.pointer (some ⟨d, 0, none⟩), .string name, bv] w (AppIs w B d cs s name.data.toList b) := by
  obtain ⟨h0, m, fs, hd, rfl⟩ := h
  obtain ⟨A, c, rfl, hlc, hcm⟩ := hb.shape
  unfold maxLen at hcm
  obtain ⟨R, fu, lf⟩ := s
  have HL := hid (show -1 ≤ lf ∧ lf ≤ 9223372036854775807 from h0.left)
  have HOK := hid (app_ok (name := name.data.toList) (b := b) h0 hd.pw)
  have HU0 := hid (show usedC (fs.map DF.c) ≤ 1048576 from Nat.le_trans h0.used h0.room)
  have HD := hid hd
  have HB := hid hb
  have HZ := hid hz
  have HROOM := hid (show R ≤ 1048576 from h0.room)
  have HMANY := hid h0.many
  obtain ⟨U, hU⟩ : ∃ U, usedC (fs.map DF.c) = U := ⟨_, rfl⟩
  have HU := hid hU
  obtain ⟨g, hg⟩ : ∃ g, goesC lf = g := ⟨_, rfl⟩
  have HG := hid hg
  clear h0 hd hb hz hU hg
  cases g with
  | false =>
    have HF := hid (show fullC (fs.map DF.c) ⟨R, fu, lf⟩ b.length = true by unfold fullC; rw [HG.out]; rfl)
    go_enter Try.func11, Try.ntmps11
    go_wp2_with fail
    refine M.wp_region_once [0] [1, 2, 3, 4, 5, 6, 7, 8, 9, 10, 11, 12, 13, 14, 15, 16, 17, 18, 19] [20] (M.specOf [(1, fun v w' => v = .bool false ∧ DiskAt w' B d m fs ⟨R, fu, leftC lf⟩)])
      (fun w' => Keep (· = d) w w') (fun i => Keep (M.effOf [(1, fun k => k = d)] i)) (M.onceOf 1 fun w' => DiskAt w' B d m fs ⟨R, fu, lf⟩)
      ?_ (M.stableC_keep (fun i k h => by obtain ⟨x, hx, _, h⟩ := h; rcases List.mem_cons.1 hx with rfl | hx; exact h; cases hx) _) ?_ (by kernel_rfl) (by kernel_rfl) (Keep.drew (Keep.refl _ _)) ?_ ?_
    · exact M.stable_cons (fun j hj v w w' h he => ⟨h.1, h.2.keep he fun k _ => eff_one hj k⟩) M.stable_nil
    · exact M.stableU_once fun j hj u u' h he => h.keep he fun k _ => eff_one hj k
    · intro k _ e
      exact HD.out.keep ((Keep.refl (fun _ => False) w).drew) fun _ _ x => x
    iterate 1
      (try simp only [Act.put, List.setIfInBounds_toArray, List.set_cons_zero, List.set_cons_succ])
      refine M.pure_run rfl rfl ?_
      apply Exists.intro
      refine ⟨fun w' => ?_, ?_⟩
      · go_simp
        rfl
    refine M.pure_nil ?_
    (try simp only [Act.put, List.setIfInBounds_toArray, List.set_cons_zero, List.set_cons_succ])
    refine M.u_eff rfl rfl rfl (fun w' hC hU hK => ?_) (fun v1 hv1 => ?_)
    · unfold M.growAt
      go_simp
      refine M.grow_call ((disk_call' _ B d m fs ⟨R, fu, lf⟩ (hU rfl) HL.out).mono ?_)
      rintro e w'' ⟨rfl, h1, h2⟩
      exact ⟨_, rfl, h2.mono (fun k _ hk => ⟨_, List.mem_cons_self, rfl, hk⟩), by rw [HG.out], h1⟩
    obtain ⟨_, _, rfl, _⟩ := hv1
    iterate 2
      (try simp only [Act.put, List.setIfInBounds_toArray, List.set_cons_zero, List.set_cons_succ])
      refine M.u_run rfl rfl rfl ?_
      apply Exists.intro
      refine ⟨fun w' hC hU hK => ?_, ?_⟩
      · go_simp
        rfl
    (try simp only [Act.put, List.setIfInBounds_toArray, List.set_cons_zero, List.set_cons_succ])
    with_reducible refine M.u_skip2 (some 12) ?_ ?_ ?_
    · exact rfl
    · exact rfl
    (try simp only [Act.put, List.setIfInBounds_toArray, List.set_cons_zero, List.set_cons_succ])
    with_reducible refine M.u_skip2 (some 13) ?_ ?_ ?_
    · exact rfl
    · exact rfl
    (try simp only [Act.put, List.setIfInBounds_toArray, List.set_cons_zero, List.set_cons_succ])
    with_reducible refine M.u_skip2 (some 14) ?_ ?_ ?_
    · exact rfl
    · exact rfl
    (try simp only [Act.put, List.setIfInBounds_toArray, List.set_cons_zero, List.set_cons_succ])
    with_reducible refine M.u_skip2 (some 15) ?_ ?_ ?_
    · exact rfl
    · exact rfl
    iterate 2
      (try simp only [Act.put, List.setIfInBounds_toArray, List.set_cons_zero, List.set_cons_succ])
      refine M.u_run rfl rfl rfl ?_
      apply Exists.intro
      refine ⟨fun w' hC hU hK => ?_, ?_⟩
      · go_simp
        rfl
    (try simp only [Act.put, List.setIfInBounds_toArray, List.set_cons_zero, List.set_cons_succ])
    with_reducible refine M.u_skip2 (some 18) ?_ ?_ ?_
    · exact rfl
    · exact rfl
    (try simp only [Act.put, List.setIfInBounds_toArray, List.set_cons_zero, List.set_cons_succ])
    with_reducible refine M.u_skip2 (some 19) ?_ ?_ ?_
    · exact rfl
    · exact rfl
    (try simp only [Act.put, List.setIfInBounds_toArray, List.set_cons_zero, List.set_cons_succ])
    with_reducible refine M.u_skip2 (some 20) ?_ ?_ ?_
    · exact rfl
    · exact rfl
    (try simp only [Act.put, List.setIfInBounds_toArray, List.set_cons_zero, List.set_cons_succ])
    with_reducible refine M.u_skip2 (some 21) ?_ ?_ ?_
    · exact rfl
    · exact rfl
    (try simp only [Act.put, List.setIfInBounds_toArray, List.set_cons_zero, List.set_cons_succ])
    with_reducible refine M.u_skip2 (some 22) ?_ ?_ ?_
    · exact rfl
    · exact rfl
    (try simp only [Act.put, List.setIfInBounds_toArray, List.set_cons_zero, List.set_cons_succ])
    with_reducible refine M.u_skip2 (some 23) ?_ ?_ ?_
    · exact rfl
    · exact rfl
    (try simp only [Act.put, List.setIfInBounds_toArray, List.set_cons_zero, List.set_cons_succ])
    with_reducible refine M.u_skip2 (some 24) ?_ ?_ ?_
    · exact rfl
    · exact rfl
    (try simp only [Act.put, List.setIfInBounds_toArray, List.set_cons_zero, List.set_cons_succ])
    with_reducible refine M.u_skip2 (some 25) ?_ ?_ ?_
    · exact rfl
    · exact rfl
    (try simp only [Act.put, List.setIfInBounds_toArray, List.set_cons_zero, List.set_cons_succ])
    with_reducible refine M.u_skip2 (some 26) ?_ ?_ ?_
    · exact rfl
    · exact rfl
    (try simp only [Act.put, List.setIfInBounds_toArray, List.set_cons_zero, List.set_cons_succ])
    with_reducible refine M.u_skip2 (some 27) ?_ ?_ ?_
    · exact rfl
    · exact rfl
    refine M.u_nil fun wz hC hK => ?_
    have hd : DiskAt wz B d m fs ⟨R, fu, leftC lf⟩ := (hK (1, _) List.mem_cons_self).2
    have hC : Keep (· = d) w wz := hC
    have HDZ := hid hd
    have HKZ := hid hC
    clear hd hC hK
    change wpList _ _ _ (_ :: []) _ _
    (try simp only [Act.put, List.setIfInBounds_toArray, List.set_cons_zero, List.set_cons_succ])
    go_wp2_with fail
    refine NoPanic.normal ?_
    go_wp2
    go_ret
    have hA := appR_full (name := name.data.toList) (b := b) HF.out
    refine ⟨by rw [hA]; rfl, ?_, HKZ.out.mono fun k _ e => by subst e; exact HD.out.own⟩
    have hok := HOK.out
    rw [hA] at hok ⊢
    exact ⟨hok, m, fs, HDZ.out.more fun k hk h => .inl h, rfl⟩
  | true =>
    cases fu with
    | true =>
      have HF := hid (show fullC (fs.map DF.c) ⟨R, true, lf⟩ b.length = true by unfold fullC; simp)
      go_enter Try.func11, Try.ntmps11
      go_wp2_with fail
      refine M.wp_region_once [0] [1, 2, 3, 4, 5, 6, 7, 8, 9, 10, 11, 12, 13, 14, 15, 16, 17, 18, 19] [20] (M.specOf [(1, fun v w' => v = .bool true ∧ DiskAt w' B d m fs ⟨R, true, leftC lf⟩)])
        (fun w' => Keep (· = d) w w') (fun i => Keep (M.effOf [(1, fun k => k = d)] i)) (M.onceOf 1 fun w' => DiskAt w' B d m fs ⟨R, true, lf⟩)
        ?_ (M.stableC_keep (fun i k h => by obtain ⟨x, hx, _, h⟩ := h; rcases List.mem_cons.1 hx with rfl | hx; exact h; cases hx) _) ?_ (by kernel_rfl) (by kernel_rfl) (Keep.drew (Keep.refl _ _)) ?_ ?_
      · exact M.stable_cons (fun j hj v w w' h he => ⟨h.1, h.2.keep he fun k _ => eff_one hj k⟩) M.stable_nil
      · exact M.stableU_once fun j hj u u' h he => h.keep he fun k _ => eff_one hj k
      · intro k _ e
        exact HD.out.keep ((Keep.refl (fun _ => False) w).drew) fun _ _ x => x
      iterate 1
        (try simp only [Act.put, List.setIfInBounds_toArray, List.set_cons_zero, List.set_cons_succ])
        refine M.pure_run rfl rfl ?_
        apply Exists.intro
        refine ⟨fun w' => ?_, ?_⟩
        · go_simp
          rfl
      refine M.pure_nil ?_
      (try simp only [Act.put, List.setIfInBounds_toArray, List.set_cons_zero, List.set_cons_succ])
      refine M.u_eff rfl rfl rfl (fun w' hC hU hK => ?_) (fun v1 hv1 => ?_)
      · unfold M.growAt
        go_simp
        refine M.grow_call ((disk_call' _ B d m fs ⟨R, true, lf⟩ (hU rfl) HL.out).mono ?_)
        rintro e w'' ⟨rfl, h1, h2⟩
        exact ⟨_, rfl, h2.mono (fun k _ hk => ⟨_, List.mem_cons_self, rfl, hk⟩), by rw [HG.out], h1⟩
      obtain ⟨_, _, rfl, _⟩ := hv1
      iterate 2
        (try simp only [Act.put, List.setIfInBounds_toArray, List.set_cons_zero, List.set_cons_succ])
        refine M.u_run rfl rfl rfl ?_
        apply Exists.intro
        refine ⟨fun w' hC hU hK => ?_, ?_⟩
        · go_simp
          rfl
      iterate 5
        (try simp only [Act.put, List.setIfInBounds_toArray, List.set_cons_zero, List.set_cons_succ])
        refine M.u_run rfl rfl rfl ?_
        apply Exists.intro
        refine ⟨fun w' hC hU hK => ?_, ?_⟩
        · have hd := (hK.get (i := 1) (List.mem_cons_self) (by kernel_rfl)).2
          obtain ⟨c0, c1, c2, c3⟩ := hd.cells
          go_simp
          rfl
      iterate 1
        (try simp only [Act.put, List.setIfInBounds_toArray, List.set_cons_zero, List.set_cons_succ])
        refine M.u_run rfl rfl rfl ?_
        apply Exists.intro
        refine ⟨fun w' hC hU hK => ?_, ?_⟩
        · go_simp
          rfl
      (try simp only [Act.put, List.setIfInBounds_toArray, List.set_cons_zero, List.set_cons_succ])
      with_reducible refine M.u_skip2 (some 18) ?_ ?_ ?_
      · exact rfl
      · exact rfl
      (try simp only [Act.put, List.setIfInBounds_toArray, List.set_cons_zero, List.set_cons_succ])
      with_reducible refine M.u_skip2 (some 19) ?_ ?_ ?_
      · exact rfl
      · exact rfl
      (try simp only [Act.put, List.setIfInBounds_toArray, List.set_cons_zero, List.set_cons_succ])
      with_reducible refine M.u_skip2 (some 20) ?_ ?_ ?_
      · exact rfl
      · exact rfl
      (try simp only [Act.put, List.setIfInBounds_toArray, List.set_cons_zero, List.set_cons_succ])
      with_reducible refine M.u_skip2 (some 21) ?_ ?_ ?_
      · exact rfl
      · exact rfl
      (try simp only [Act.put, List.setIfInBounds_toArray, List.set_cons_zero, List.set_cons_succ])
      with_reducible refine M.u_skip2 (some 22) ?_ ?_ ?_
      · exact rfl
      · exact rfl
      (try simp only [Act.put, List.setIfInBounds_toArray, List.set_cons_zero, List.set_cons_succ])
      with_reducible refine M.u_skip2 (some 23) ?_ ?_ ?_
      · exact rfl
      · exact rfl
      (try simp only [Act.put, List.setIfInBounds_toArray, List.set_cons_zero, List.set_cons_succ])
      with_reducible refine M.u_skip2 (some 24) ?_ ?_ ?_
      · exact rfl
      · exact rfl
      (try simp only [Act.put, List.setIfInBounds_toArray, List.set_cons_zero, List.set_cons_succ])
      with_reducible refine M.u_skip2 (some 25) ?_ ?_ ?_
      · exact rfl
      · exact rfl
      (try simp only [Act.put, List.setIfInBounds_toArray, List.set_cons_zero, List.set_cons_succ])
      with_reducible refine M.u_skip2 (some 26) ?_ ?_ ?_
      · exact rfl
      · exact rfl
      (try simp only [Act.put, List.setIfInBounds_toArray, List.set_cons_zero, List.set_cons_succ])
      with_reducible refine M.u_skip2 (some 27) ?_ ?_ ?_
      · exact rfl
      · exact rfl
      refine M.u_nil fun wz hC hK => ?_
      have hd : DiskAt wz B d m fs ⟨R, true, leftC lf⟩ := (hK (1, _) List.mem_cons_self).2
      have hC : Keep (· = d) w wz := hC
      have HDZ := hid hd
      have HKZ := hid hC
      clear hd hC hK
      change wpList _ _ _ (_ :: []) _ _
      (try simp only [Act.put, List.setIfInBounds_toArray, List.set_cons_zero, List.set_cons_succ])
      go_wp2_with fail
      refine NoPanic.normal ?_
      go_wp2
      go_ret
      have hA := appR_full (name := name.data.toList) (b := b) HF.out
      refine ⟨by rw [hA]; rfl, ?_, HKZ.out.mono fun k _ e => by subst e; exact HD.out.own⟩
      have hok := HOK.out
      rw [hA] at hok ⊢
      exact ⟨hok, m, fs, HDZ.out.more fun k hk h => .inl h, rfl⟩
    | false =>
      obtain ⟨r, hr⟩ : ∃ r, decide ((R : Int) - U < b.length) = r := ⟨_, rfl⟩
      have HF := hid (show fullC (fs.map DF.c) ⟨R, false, lf⟩ b.length = r by unfold fullC; rw [HG.out, HU.out, hr]; simp)
      have hwr : IntKind.i64.wrap ((R : Int) - U) = (R : Int) - U := by
        have h1 := HROOM.out; have h2 := HU0.out; rw [HU.out] at h2
        rw [IntKind.wrap_i64]; omega
      cases r with
      | true =>
        go_enter Try.func11, Try.ntmps11
        go_wp2_with fail
        refine M.wp_region_once [0] [1, 2, 3, 4, 5, 6, 7, 8, 9, 10, 11, 12, 13, 14, 15, 16, 17, 18, 19] [20] (M.specOf [(1, fun v w' => v = .bool true ∧ DiskAt w' B d m fs ⟨R, false, leftC lf⟩), (17, fun v w' => v = .int .i64 (U : Int))])
          (fun w' => Keep (· = d) w w') (fun i => Keep (M.effOf [(1, fun k => k = d)] i)) (M.onceOf 1 fun w' => DiskAt w' B d m fs ⟨R, false, lf⟩)
          ?_ (M.stableC_keep (fun i k h => by obtain ⟨x, hx, _, h⟩ := h; rcases List.mem_cons.1 hx with rfl | hx; exact h; cases hx) _) ?_ (by kernel_rfl) (by kernel_rfl) (Keep.drew (Keep.refl _ _)) ?_ ?_
        · exact M.stable_cons (fun j hj v w w' h he => ⟨h.1, h.2.keep he fun k _ => eff_one hj k⟩) (M.stable_cons (fun j hj v w w' h he => h) M.stable_nil)
        · exact M.stableU_once fun j hj u u' h he => h.keep he fun k _ => eff_one hj k
        · intro k _ e
          exact HD.out.keep ((Keep.refl (fun _ => False) w).drew) fun _ _ x => x
        iterate 1
          (try simp only [Act.put, List.setIfInBounds_toArray, List.set_cons_zero, List.set_cons_succ])
          refine M.pure_run rfl rfl ?_
          apply Exists.intro
          refine ⟨fun w' => ?_, ?_⟩
          · go_simp
            rfl
        refine M.pure_nil ?_
        (try simp only [Act.put, List.setIfInBounds_toArray, List.set_cons_zero, List.set_cons_succ])
        refine M.u_eff rfl rfl rfl (fun w' hC hU hK => ?_) (fun v1 hv1 => ?_)
        · unfold M.growAt
          go_simp
          refine M.grow_call ((disk_call' _ B d m fs ⟨R, false, lf⟩ (hU rfl) HL.out).mono ?_)
          rintro e w'' ⟨rfl, h1, h2⟩
          exact ⟨_, rfl, h2.mono (fun k _ hk => ⟨_, List.mem_cons_self, rfl, hk⟩), by rw [HG.out], h1⟩
        obtain ⟨_, _, rfl, _⟩ := hv1
        iterate 2
          (try simp only [Act.put, List.setIfInBounds_toArray, List.set_cons_zero, List.set_cons_succ])
          refine M.u_run rfl rfl rfl ?_
          apply Exists.intro
          refine ⟨fun w' hC hU hK => ?_, ?_⟩
          · go_simp
            rfl
        iterate 5
          (try simp only [Act.put, List.setIfInBounds_toArray, List.set_cons_zero, List.set_cons_succ])
          refine M.u_run rfl rfl rfl ?_
          apply Exists.intro
          refine ⟨fun w' hC hU hK => ?_, ?_⟩
          · have hd := (hK.get (i := 1) (List.mem_cons_self) (by kernel_rfl)).2
            obtain ⟨c0, c1, c2, c3⟩ := hd.cells
            go_simp
            rfl
        iterate 1
          (try simp only [Act.put, List.setIfInBounds_toArray, List.set_cons_zero, List.set_cons_succ])
          refine M.u_run rfl rfl rfl ?_
          apply Exists.intro
          refine ⟨fun w' hC hU hK => ?_, ?_⟩
          · go_simp
            rfl
        iterate 7
          (try simp only [Act.put, List.setIfInBounds_toArray, List.set_cons_zero, List.set_cons_succ])
          refine M.u_run rfl rfl rfl ?_
          apply Exists.intro
          refine ⟨fun w' hC hU hK => ?_, ?_⟩
          · have hd := (hK.get (i := 1) (List.mem_cons_self) (by kernel_rfl)).2
            obtain ⟨c0, c1, c2, c3⟩ := hd.cells
            go_simp
            rfl
        (try simp only [Act.put, List.setIfInBounds_toArray, List.set_cons_zero, List.set_cons_succ])
        refine M.u_eff rfl rfl rfl (fun w' hC hU hK => ?_) (fun v17 hv17 => ?_)
        · unfold M.growAt
          go_simp
          refine M.grow_call ((disk_used _ B d m fs _ (hK.get (i := 1) List.mem_cons_self (by kernel_rfl)).2 HU0.out).mono ?_)
          rintro e w'' ⟨rfl, h1⟩
          exact ⟨_, rfl, h1.mono (fun k _ h => h.elim), by rw [HU.out]⟩
        obtain ⟨_, _, rfl⟩ := hv17
        iterate 2
          (try simp only [Act.put, List.setIfInBounds_toArray, List.set_cons_zero, List.set_cons_succ])
          refine M.u_run rfl rfl rfl ?_
          apply Exists.intro
          refine ⟨fun w' hC hU hK => ?_, ?_⟩
          · go_simp
            rfl
        refine M.u_nil fun wz hC hK => ?_
        have hd : DiskAt wz B d m fs ⟨R, false, leftC lf⟩ := (hK (1, _) (List.mem_cons_of_mem _ List.mem_cons_self)).2
        have hC : Keep (· = d) w wz := hC
        have HDZ := hid hd
        have HKZ := hid hC
        clear hd hC hK
        change wpList _ _ _ (_ :: []) _ _
        (try simp only [Act.put, List.setIfInBounds_toArray, List.set_cons_zero, List.set_cons_succ])
        go_wp2_with fail
        refine NoPanic.normal ?_
        go_wp2
        go_ret
        have hA := appR_full (name := name.data.toList) (b := b) HF.out
        refine ⟨by rw [hA]; rfl, ?_, HKZ.out.mono fun k _ e => by subst e; exact HD.out.own⟩
        have hok := HOK.out
        rw [hA] at hok ⊢
        exact ⟨hok, m, fs, HDZ.out.more fun k hk h => .inl h, rfl⟩
      | false =>
        go_enter Try.func11, Try.ntmps11
        go_wp2_with fail
        refine M.wp_region_once [0] [1, 2, 3, 4, 5, 6, 7, 8, 9, 10, 11, 12, 13, 14, 15, 16, 17, 18, 19] [20] (M.specOf [(1, fun v w' => v = .bool true ∧ DiskAt w' B d m fs ⟨R, false, leftC lf⟩), (17, fun v w' => v = .int .i64 (U : Int))])
          (fun w' => Keep (· = d) w w') (fun i => Keep (M.effOf [(1, fun k => k = d)] i)) (M.onceOf 1 fun w' => DiskAt w' B d m fs ⟨R, false, lf⟩)
          ?_ (M.stableC_keep (fun i k h => by obtain ⟨x, hx, _, h⟩ := h; rcases List.mem_cons.1 hx with rfl | hx; exact h; cases hx) _) ?_ (by kernel_rfl) (by kernel_rfl) (Keep.drew (Keep.refl _ _)) ?_ ?_
        · exact M.stable_cons (fun j hj v w w' h he => ⟨h.1, h.2.keep he fun k _ => eff_one hj k⟩) (M.stable_cons (fun j hj v w w' h he => h) M.stable_nil)
        · exact M.stableU_once fun j hj u u' h he => h.keep he fun k _ => eff_one hj k
        · intro k _ e
          exact HD.out.keep ((Keep.refl (fun _ => False) w).drew) fun _ _ x => x
        iterate 1
          (try simp only [Act.put, List.setIfInBounds_toArray, List.set_cons_zero, List.set_cons_succ])
          refine M.pure_run rfl rfl ?_
          apply Exists.intro
          refine ⟨fun w' => ?_, ?_⟩
          · go_simp
            rfl
        refine M.pure_nil ?_
        (try simp only [Act.put, List.setIfInBounds_toArray, List.set_cons_zero, List.set_cons_succ])
        refine M.u_eff rfl rfl rfl (fun w' hC hU hK => ?_) (fun v1 hv1 => ?_)
        · unfold M.growAt
          go_simp
          refine M.grow_call ((disk_call' _ B d m fs ⟨R, false, lf⟩ (hU rfl) HL.out).mono ?_)
          rintro e w'' ⟨rfl, h1, h2⟩
          exact ⟨_, rfl, h2.mono (fun k _ hk => ⟨_, List.mem_cons_self, rfl, hk⟩), by rw [HG.out], h1⟩
        obtain ⟨_, _, rfl, _⟩ := hv1
        iterate 2
          (try simp only [Act.put, List.setIfInBounds_toArray, List.set_cons_zero, List.set_cons_succ])
          refine M.u_run rfl rfl rfl ?_
          apply Exists.intro
          refine ⟨fun w' hC hU hK => ?_, ?_⟩
          · go_simp
            rfl
        iterate 5
          (try simp only [Act.put, List.setIfInBounds_toArray, List.set_cons_zero, List.set_cons_succ])
          refine M.u_run rfl rfl rfl ?_
          apply Exists.intro
          refine ⟨fun w' hC hU hK => ?_, ?_⟩
          · have hd := (hK.get (i := 1) (List.mem_cons_self) (by kernel_rfl)).2
            obtain ⟨c0, c1, c2, c3⟩ := hd.cells
            go_simp
            rfl
        iterate 1
          (try simp only [Act.put, List.setIfInBounds_toArray, List.set_cons_zero, List.set_cons_succ])
          refine M.u_run rfl rfl rfl ?_
          apply Exists.intro
          refine ⟨fun w' hC hU hK => ?_, ?_⟩
          · go_simp
            rfl
        iterate 7
          (try simp only [Act.put, List.setIfInBounds_toArray, List.set_cons_zero, List.set_cons_succ])
          refine M.u_run rfl rfl rfl ?_
          apply Exists.intro
          refine ⟨fun w' hC hU hK => ?_, ?_⟩
          · have hd := (hK.get (i := 1) (List.mem_cons_self) (by kernel_rfl)).2
            obtain ⟨c0, c1, c2, c3⟩ := hd.cells
            go_simp
            rfl
        (try simp only [Act.put, List.setIfInBounds_toArray, List.set_cons_zero, List.set_cons_succ])
        refine M.u_eff rfl rfl rfl (fun w' hC hU hK => ?_) (fun v17 hv17 => ?_)
        · unfold M.growAt
          go_simp
          refine M.grow_call ((disk_used _ B d m fs _ (hK.get (i := 1) List.mem_cons_self (by kernel_rfl)).2 HU0.out).mono ?_)
          rintro e w'' ⟨rfl, h1⟩
          exact ⟨_, rfl, h1.mono (fun k _ h => h.elim), by rw [HU.out]⟩
        obtain ⟨_, _, rfl⟩ := hv17
        iterate 2
          (try simp only [Act.put, List.setIfInBounds_toArray, List.set_cons_zero, List.set_cons_succ])
          refine M.u_run rfl rfl rfl ?_
          apply Exists.intro
          refine ⟨fun w' hC hU hK => ?_, ?_⟩
          · go_simp
            rfl
        refine M.u_nil fun wz hC hK => ?_
        have hd : DiskAt wz B d m fs ⟨R, false, leftC lf⟩ := (hK (1, _) (List.mem_cons_of_mem _ List.mem_cons_self)).2
        have hC : Keep (· = d) w wz := hC
        have HDZ := hid hd
        have HKZ := hid hC
        clear hd hC hK
        change wpList _ _ _ (_ :: []) _ _
        (try simp only [Act.put, List.setIfInBounds_toArray, List.set_cons_zero, List.set_cons_succ])
        go_wp2_with fail
        refine NoPanic.normal ?_
        have HRB := hid (show U + b.length ≤ R from by simp at hr; omega)
        have HBZ := hid (((bytes_apart HB.out HD.out.blk (dsk_noU8 _ _ _ _)).keep EU8.ok HKZ.out fun k hk e => hk.2 e))
        have hlook := HDZ.out.map.look (name := name) HZ.out
        obtain ⟨c0, c1, c2, c3⟩ := HDZ.out.cells
        have hpe := eql_pfi
        obtain ⟨o, ho⟩ : ∃ o, findF fs name.data.toList = o := ⟨_, rfl⟩
        rw [ho] at hlook
        have HO := hid ho
        clear hr hwr ho c1 c2 c3 HB
        cases o with
        | some f =>
          replace hlook : (Instr.lookup TMAP (.map (some m)) (.string name) false).run Try.prog wz = .ok (.pointer (some ⟨f.blk, 0, none⟩)) wz := hlook
          have HME := hid (findF_some HO.out)
          obtain ⟨Af, kf, q0, _, hfb, hfl, _, _, hfblk⟩ := (HDZ.out.files f HME.out.1).2.cells
          have HFB := hid hfblk
          have HFL := hid hfl
          have hv2 := sl_two (w := wz) (t := 23) (f := (0, 0)) (bytes_any hfb) (bytes_any HBZ.out)
          have HV2 := hid hv2
          clear hfb hfl hfblk hv2
          go_wp2_with fail
          refine (concat_any _ _ _ _ HV2.out (by
            have h1 := mem_usedC (List.mem_map_of_mem (f := DF.c) HME.out.1)
            have h2 := HRB.out; have h3 := HROOM.out; have h4 := HU.out
            simp only [List.flatten_cons, List.flatten_nil, List.append_nil, List.length_append]
            omega)).mono ?_
          rintro e w3 ⟨v', rfl, hown, hE⟩
          have hfl2 : [f.c.b, b].flatten = f.c.b ++ b := by simp
          rw [hfl2] at hown
          obtain ⟨A3, k3, rfl, _⟩ := hown.shape
          generalize hn3 : (f.c.b ++ b).length = n3 at *
          have hE3 : Ext wz w3 := ((Keep.refl (fun _ => False) wz).alloc _).ext hE
          have hsl := (hown.sl EU8.ok).more (S' := fun k => wz.heap.size ≤ k) EU8.ok (fun k _ h => by
            rcases h with h | h
            · exact h.elim
            · have := (hown.lt h).1; simp at this; omega)
          have q0' := (hE3.cell (lt_of_cell q0) id).trans q0
          have hfz := (HFB.out.keep hE3 id).frozen
          have HD4 := hid (HDZ.out.setBytes hE3 HO.out (g := moreC b) (fun _ => rfl) hsl rfl (by have := HFL.out; show f.c.l ≤ (f.c.b ++ b).length; simp; omega))
          have HK4 := hid (show Keep B w (w3.setCell ⟨f.blk, 0, none⟩ (.slice A3 n3 k3)) from
            ((HKZ.out.mono fun k _ e => by subst e; exact HD.out.own).ext hE3).trans ((Keep.refl (· = f.blk) w3).set1 0 _) fun k _ e => by subst e; exact (HDZ.out.files f HME.out.1).1)
          have HSZ := hid (show wz.heap.size ≤ w3.heap.size ∧ w.heap.size ≤ wz.heap.size from ⟨hE3.size, HKZ.out.size⟩)
          clear hown hE hE3 hsl q0 hlook c0 hfl2 hn3
          go_wp2
          go_ret
          have hA := appR_has (name := name.data.toList) HF.out (by rw [hasC_map, HO.out]; rfl)
          refine ⟨by rw [hA]; rfl, ?_, HK4.out⟩
          have hok := HOK.out
          rw [hA] at hok ⊢
          refine ⟨hok, m, _, HD4.out.more fun k hk h => ?_, updF_c _ _ _⟩
          rcases h with h | h
          · exact .inl h
          · have := HSZ.out; refine .inr ⟨by omega, ?_⟩; simpa using h.2
        | none =>
          replace hlook : (Instr.lookup TMAP (.map (some m)) (.string name) false).run Try.prog wz = .ok (.pointer none) wz := hlook
          have HNO := hid (findF_none HO.out)
          go_wp2_with fail
          refine (disk_fresh wz B d m fs _ name HDZ.out HZ.out).mono ?_
          obtain ⟨r, hr⟩ : ∃ r, mayC fs.length name.data.toList = r := ⟨_, rfl⟩
          have HR := hid hr
          rw [hr]
          clear hr
          rintro e w2 ⟨rfl, rfl⟩
          have hhas : hasC (fs.map DF.c) name.data.toList = false := by rw [hasC_map, HO.out]; rfl
          have HHAS := hid hhas
          clear hhas hlook
          cases r with
          | false =>
            go_wp2
            go_ret
            have hA := appR_no (name := name.data.toList) (b := b) HF.out HHAS.out (by rw [List.length_map]; exact HR.out)
            refine ⟨by rw [hA]; rfl, ?_, HKZ.out.mono fun k _ e => by subst e; exact HD.out.own⟩
            have hok := HOK.out
            rw [hA] at hok ⊢
            exact ⟨hok, m, fs, HDZ.out.more fun k hk h => .inl h, rfl⟩
          | true =>
            have HE1 := hid (show Ext wz (wz.alloc (.cells #[.slice none 0 0, .int .i64 0] TFIL)) from (Keep.refl _ _).alloc _)
            have HM := hid (HDZ.out.map.keep HE1.out id)
            have c0' := (HE1.out.cell (lt_of_cell c0) id).trans c0
            have HBN := hid (Blk.new wz TFIL #[.slice none 0 0, .int .i64 0])
            have hne : wz.heap.size ≠ m := by have := HDZ.out.map.lt; omega
            have HNE := hid hne
            clear hne
            go_wp2_with (at_mapUpdate; refine wpList_store_files rfl _ _ _ rfl m fs rfl HM.out name rfl HZ.out (by have := HMANY.out; rw [List.length_map] at this; unfold maxLen; omega) HNO.out ⟨⟨name.data.toList, [], 0⟩, wz.heap.size⟩ rfl rfl ?_; intro w4 hm4 hk4; have HM4 := hid hm4; have HK4 := hid hk4; have hbn4 := HBN.out.keep hk4 HNE.out; have HBN4 := hid hbn4; have q0 : w4.cell? ⟨wz.heap.size, 0, none⟩ = some (.slice none 0 0) := hbn4.cell 0)
            have HB4 := hid (((bytes_notmap HBZ.out HDZ.out.map).ext EU8.ok HE1.out).keep EU8.ok hk4 fun k h e => h.2 e)
            have hv2 := sl_two (w := w4) (t := 23) (f := (0, 0)) (Sl.nil (E := EU8) w4 (fun _ => True)) (bytes_any HB4.out)
            have HV2 := hid hv2
            clear hm4 hk4 hbn4 hv2 c0 c0'
            refine (concat_any _ _ _ _ HV2.out (by
              have h2 := HRB.out; have h3 := HROOM.out
              simp only [List.flatten_cons, List.flatten_nil, List.append_nil, List.length_append, List.length_nil]
              omega)).mono ?_
            rintro e w3 ⟨v', rfl, hown, hE⟩
            have hfl2 : [([] : List UInt8), b].flatten = b := by simp
            rw [hfl2] at hown
            obtain ⟨A3, k3, rfl, _⟩ := hown.shape
            have hE3 : Ext w4 w3 := ((Keep.refl (fun _ => False) w4).alloc _).ext hE
            have hws : wz.heap.size < w4.heap.size := HBN4.out.lt
            have hsl := (hown.sl EU8.ok).more (S' := fun k => w4.heap.size ≤ k) EU8.ok (fun k _ h => by
              rcases h with h | h
              · exact h.elim
              · have := (hown.lt h).1; simp at this; omega)
            have q0' := (hE3.cell (lt_of_cell q0) id).trans q0
            have hb3 := HBN4.out.keep hE3 id
            have hfz := hb3.frozen
            have hks : Keep (· = wz.heap.size) w3 (w3.setCell ⟨wz.heap.size, 0, none⟩ (.slice A3 b.length k3)) := (Keep.refl _ _).set1 0 _
            have hkw : Keep (· = m) wz (w3.setCell ⟨wz.heap.size, 0, none⟩ (.slice A3 b.length k3)) :=
              ((((Keep.refl (· = m) wz).ext HE1.out).trans HK4.out fun _ _ e => e).ext hE3).trans hks fun k hk e => by omega
            have hst := hb3.set_ 0 (.slice A3 b.length k3)
            have HD4 := hid (HDZ.out.addFile (x := ⟨⟨name.data.toList, b, 0⟩, wz.heap.size⟩)
              (((HM4.out.keep hE3 id).keep hks fun e => HNE.out e.symm).same (ins_ent (by rfl) fs)) hkw (Nat.le_refl _)
              ⟨.slice A3 b.length k3, by simpa using hst, (hsl.keep EU8.ok hks fun k h e => by omega).more EU8.ok fun k hk h => ⟨by omega, by show k ≠ wz.heap.size; omega⟩, Nat.zero_le _⟩)
            have HKF := hid (show Keep B w (w3.setCell ⟨wz.heap.size, 0, none⟩ (.slice A3 b.length k3)) from
              (HKZ.out.mono fun k _ e => by subst e; exact HD.out.own).trans hkw fun k _ e => by subst e; exact HDZ.out.ownm)
            have HSZ := hid (show w.heap.size ≤ wz.heap.size from HKZ.out.size)
            clear hown hE hE3 hsl q0 hfl2 hb3 hks hkw hst hws
            go_wp2
            go_ret
            have hA := appR_new (name := name.data.toList) (b := b) HF.out HHAS.out (by rw [List.length_map]; exact HR.out)
            refine ⟨by rw [hA]; rfl, ?_, HKF.out⟩
            have hok := HOK.out
            rw [hA] at hok ⊢
            refine ⟨hok, m, _, HD4.out.more fun k hk h => ?_, insF_c _ _⟩
            rcases h with h | h
            · exact .inl h
            · have := HSZ.out; refine .inr ⟨by omega, ?_⟩; simpa using h.2
end Go.Proofs.Ytikophoopapngaa
