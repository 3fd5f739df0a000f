/- val.Deep at any value. -/
import Derived.Test.YtaemmabaekjkeaaDoorValWeight
set_option linter.unusedSimpArgs false
set_option linter.unusedVariables false
namespace Go.Proofs.YtaemmabaekjkeaaDoor
open Go.RowKit Go.Shelf
set_option linter.unusedVariables false
attribute [local go_sem] Oper.semAt_some

theorem kidsL_deeps : ∀ l : List V, F.deeps (kidsL l) = V.deeps l
  | [] => by simp [kidsL, F.deeps, V.deeps]
  | v :: vs => by
    have := kidsL_deeps vs
    unfold kidsL at this ⊢
    rw [List.map_cons, F.deeps, V.deeps, this, F.deep]
theorem kids_deeps (x : V) : F.deeps (kids x) = x.deep := by rw [kids, F.deeps_append, kidsL_deeps, V.deep_eq]
mutual
theorem V.deep_lt : ∀ v : V, v.deep < v.size
  | .mk k n s l o => by
    have h1 := V.deeps_le l
    have h2 := F.deeps_le o
    rw [V.deep, V.size]; omega
theorem V.deeps_le : ∀ l : List V, V.deeps l ≤ V.sizes l
  | [] => by simp [V.deeps]
  | v :: vs => by
    have h1 := V.deep_lt v
    have h2 := V.deeps_le vs
    rw [V.deeps, V.sizes]; omega
theorem F.deep_le : ∀ f : F, f.deep ≤ f.size
  | .mk k v => by
    have h1 := V.deep_lt v
    rw [F.deep, F.size]; omega
theorem F.deeps_le : ∀ l : List F, F.deeps l ≤ F.sizes l
  | [] => by simp [F.deeps]
  | f :: fs => by
    have h1 := F.deep_le f
    have h2 := F.deeps_le fs
    rw [F.deeps, F.sizes]; omega
end
set_option maxRecDepth 100000 in
set_option maxHeartbeats 6400000 in
theorem deep_any : ∀ (m : Nat) (x : V), x.size ≤ m → m ≤ 1000000 → ∀ (u : Value) (S : BS) (w : World), VAt w S u x →
    Calls Tryd.prog 17 #[u] w fun e w' => e = .returned (.int .i64 x.deep) ∧ Ext w w' := by
  intro m
  induction m with
  | zero => intro x h _; have := x.size_pos; omega
  | succ m ih =>
  intro x hsz hmm u S w hu
  obtain ⟨lv, ov, rfl, hl, ho⟩ := hu.cut
  obtain ⟨A, c, rfl, hlc, hcm⟩ := hl.shape
  obtain ⟨A', c', rfl, hlc', hcm'⟩ := ho.shape
  have HIH := hid ih
  have HL := hid hl
  have HO := hid ho
  have HSZ := hid hsz
  have HMM := hid (show m ≤ 1000000 by omega)
  clear ih hu hl ho hsz hmm
  refine callsOf Tryd.func17 rfl ?_
  simp only [Tryd.ntmps17, List.size_toArray, List.length_cons, List.length_nil, Nat.reduceAdd, Nat.reduceSub, Array.replicate_succ, Array.replicate_zero, List.push_toArray, List.append_toArray, List.nil_append, List.cons_append]
  gi_wp2_with fail
  refine ⟨trivial, (callsIn_wide.2 (within_ok _ _ _ _ _ _)).mono ?_⟩
  rintro e w' ⟨rfl, rfl⟩
  gi_wp2_with fail
  obtain ⟨W0, hW0⟩ : ∃ W0, ((w.alloc (.cells #[U8 x.kind, .int .i64 x.n, .string x.s, .slice A x.l.length c, .slice A' x.o.length c'] TVAL)).alloc (.cells #[.int .i64 0] 3)).alloc (.cells #[U8 x.kind, .int .i64 x.n, .string x.s, .slice A x.l.length c, .slice A' x.o.length c'] TVAL) = W0 := ⟨_, rfl⟩
  have hE0 : Ext w W0 := by rw [← hW0]; exact (((Keep.refl _ _).alloc _).alloc _).alloc _
  have hsz : W0.heap.size = w.heap.size + 3 := by rw [← hW0]; simp
  have hb1 : Blk W0 (w.heap.size + 1) 3 #[.int .i64 0] := by
    have := (Blk.new (w.alloc (.cells #[U8 x.kind, .int .i64 x.n, .string x.s, .slice A x.l.length c, .slice A' x.o.length c'] TVAL)) 3 #[.int .i64 0]).alloc (.cells #[U8 x.kind, .int .i64 x.n, .string x.s, .slice A x.l.length c, .slice A' x.o.length c'] TVAL)
    rw [World.size_alloc] at this
    rw [← hW0]; exact this
  have hb2 : Blk W0 (w.heap.size + 1 + 1) TVAL #[U8 x.kind, .int .i64 x.n, .string x.s, .slice A x.l.length c, .slice A' x.o.length c'] := by
    have := Blk.new ((w.alloc (.cells #[U8 x.kind, .int .i64 x.n, .string x.s, .slice A x.l.length c, .slice A' x.o.length c'] TVAL)).alloc (.cells #[.int .i64 0] 3)) TVAL #[U8 x.kind, .int .i64 x.n, .string x.s, .slice A x.l.length c, .slice A' x.o.length c']
    rw [World.size_alloc, World.size_alloc] at this
    rw [← hW0]; exact this
  simp only [hW0]
  have HE0 := hid hE0
  have HS0 := hid hsz
  have hst := within_stops 4 (w.heap.size + 1 + 1) (w.heap.size + 1) W0 _ x _ _ (by omega) hb2 (HL.out.ext EVal.ok hE0) (HO.out.ext EField.ok hE0) (fun f => f.v.size ≤ m) (fun f hf => by have := kids_mem hf; have := HSZ.out; omega) (fun k hk => by have := hk.2; omega) (by omega)
  clear hW0 hE0 hb2
  refine wpIn_rangeFunc_ownH rfl (by omega) (gf := 40) (lb := #[.pointer (some ⟨w.heap.size + 1 + 1, 0, none⟩)]) rfl trivial (enters_of Tryd.func40 (by kernel_rfl) rfl) hst kp_t kp_b (Below.refl _ _) (fun _ => rfl)
    (fun pre W => Blk W (w.heap.size + 1) 3 #[.int .i64 (F.deeps (pre.map Kid.kv))] ∧ Keep (· = w.heap.size + 1) W0 W)
    (fun _ _ _ => False)
    (fun s X Y row hs hg hr => ⟨hs.1.grown hg (fun e => by have := (hr _ e.symm).1; omega), hs.2.grown hg fun k e hk => by have := (hr k e).1; omega⟩)
    (fun _ _ _ _ _ hs _ _ => hs.elim)
    ⟨by simpa [F.deeps] using hb1, Keep.refl _ _⟩
    (fun kid a' W => ∃ Bx, W0.heap.size ≤ Bx ∧ Blk W Bx TVAL #[U8 kid.v.kind, .int .i64 kid.v.n, .string kid.v.s, .slice kid.A1 kid.v.l.length kid.c1, .slice kid.A2 kid.v.o.length kid.c2] ∧ a' = { tmps := #[.agg #[U8 x.kind, .int .i64 x.n, .string x.s, .slice A x.l.length c, .slice A' x.o.length c'], .pointer (some ⟨w.heap.size, 0, none⟩), .int .i64 0, .pointer (some ⟨w.heap.size + 1, 0, none⟩), undef, .pointer (some ⟨Bx, 0, none⟩),
      .agg #[U8 x.kind, .int .i64 x.n, .string x.s, .slice A x.l.length c, .slice A' x.o.length c'], .func (.func 40) #[] #[.pointer (some ⟨w.heap.size + 1 + 1, 0, none⟩)], .string kid.key, .agg #[U8 kid.v.kind, .int .i64 kid.v.n, .string kid.v.s, .slice kid.A1 kid.v.l.length kid.c1, .slice kid.A2 kid.v.o.length kid.c2], undef, undef, undef, undef, undef, undef], defers := [] })
    (fun kid a' s X Y row hs hg hr => by
      obtain ⟨Bx, h1, h2, h3⟩ := hs
      refine ⟨Bx, h1, h2.grown hg (fun e => ?_), h3⟩
      obtain ⟨_, o, ho, hc⟩ := hr _ e.symm
      unfold Blk at h2
      rw [h2] at ho
      cases ho
      cases hc)
    ?assign ?body ?done ?stop
  case assign =>
    rintro l pre kid W K ⟨hb, hk⟩ hK
    have hws := hk.size
    simp only [Kid.enc]
    gi_wp2
    exact hK _ _ ((KeepsOthers.alloc _ _).from _) (Keep.alloc (Keep.refl _ _) _) ⟨hb.alloc _, hk.alloc _⟩ ⟨W.heap.size, hws, Blk.new _ _ _, rfl⟩
  case body =>
    rintro l pre kid a' W hlw _ ⟨hb, hk⟩ ⟨Bx, hBx, hbx, rfl⟩ hlen
    have q0 := hb.cell 0
    have f0 := hb.frozen 0
    obtain ⟨p0, p1, p2, p3, p4⟩ := blk5 hbx
    have q0 : W.cell? ⟨w.heap.size + 1, 0, none⟩ = some (.int .i64 (F.deeps (pre.map Kid.kv))) := q0
    have HB := hid hb
    have HK := hid hk
    have HV := hid (VAt.keep kid.at_ hk fun k hk e => by have := hk.2; omega)
    have HKS := hid kid.ok
    clear hb hk hbx hst
    have hdl := V.deep_lt kid.v
    have hdn : (kid.v.deep : Int) ≤ 1000000 := by have h1 : kid.v.size ≤ m := HKS.out; have := HMM.out; omega
    have hdn2 : F.deeps ((pre ++ [kid]).map Kid.kv) = max (F.deeps (pre.map Kid.kv)) (kid.v.deep + 1) := by
      rw [List.map_append, F.deeps_append, List.map_singleton, F.deeps_one, F.deep_eq]; rfl
    gi_wp2_with fail
    refine wpIn_region_parts [] [0, 1, 2, 3] [4, 5] (specOf [(2, fun v _ => v = .int .i64 kid.v.deep)]) (fun w' => Ext W w') (stable_cons (fun v w w' h he => h) stable_nil) (stableC_ext _) (by kernel_rfl) (by kernel_rfl) (by kernel_rfl) (fun ⟨_, _, h⟩ => h) (Keep.drew (Keep.refl _ _)) ?_
    refine pure_nil ?_
    iterate 2
      (try simp only [Act.put, List.setIfInBounds_toArray, List.set_cons_zero, List.set_cons_succ])
      refine growP_run rfl rfl rfl ?_
      apply Exists.intro
      refine ⟨fun w' hC hK => ?_, ?_⟩
      · have q0 := (hC.cell (lt_of_cell q0) id).trans q0
        have p0 := (hC.cell (lt_of_cell p0) id).trans p0
        have p1 := (hC.cell (lt_of_cell p1) id).trans p1
        have p2 := (hC.cell (lt_of_cell p2) id).trans p2
        have p3 := (hC.cell (lt_of_cell p3) id).trans p3
        have p4 := (hC.cell (lt_of_cell p4) id).trans p4
        go_simp
        rfl
    (try simp only [Act.put, List.setIfInBounds_toArray, List.set_cons_zero, List.set_cons_succ])
    refine growP_eff rfl rfl rfl (fun w' hC hK => ?_) (fun v4 hv4 => ?_)
    · unfold growAt
      go_simp
      refine grow_call ((HIH.out kid.v HKS.out HMM.out _ _ w' (HV.out.ext hC)).mono ?_)
      rintro e w'' ⟨rfl, h1⟩
      exact ⟨_, rfl, h1, rfl⟩
    obtain ⟨_, _, rfl⟩ := hv4.head
    iterate 1
      (try simp only [Act.put, List.setIfInBounds_toArray, List.set_cons_zero, List.set_cons_succ])
      refine growP_run rfl rfl rfl ?_
      apply Exists.intro
      refine ⟨fun w' hC hK => ?_, ?_⟩
      · go_simp
        rfl
    refine growP_nil fun w5 hC _ => ?_
    have hb5 := HB.out.keep hC id
    have q5 : w5.cell? ⟨w.heap.size + 1, 0, none⟩ = some (.int .i64 (F.deeps (pre.map Kid.kv))) := hb5.cell 0
    have f5 := hb5.frozen 0
    have hkC := hid (show Ext W w5 from hC)
    have HB5 := hid hb5
    clear hC hv4 q0 f0 p0 p1 p2 p3 p4 hb5
    obtain ⟨dn, hdn3⟩ : ∃ dn, F.deeps ((pre ++ [kid]).map Kid.kv) = dn := ⟨_, rfl⟩
    rw [hdn3] at hdn2
    have HDE := hid hdn3
    have HDN := hid hdn2
    clear hdn2 hdn3
    generalize F.deeps (pre.map Kid.kv) = dp at *
    change wpList _ _ _ (_ :: _ :: []) _ _
    (try simp only [Act.put, List.setIfInBounds_toArray, List.set_cons_zero, List.set_cons_succ])
    by_cases hlt : (dp : Int) < kid.v.deep + 1
    · go_wp2
      refine NoPanic.normal ?_
      have hd1 : (kid.v.deep : Int) + 1 = (dn : Nat) := by have := HDN.out; omega
      rw [hd1]
      have hset : Keep (· = w.heap.size + 1) w5 (w5.setCell ⟨w.heap.size + 1, 0, none⟩ (.int .i64 dn)) := Keep.setAt (Keep.refl (· = w.heap.size + 1) w5) (fun _ => rfl) 0 _
      have hall : Keep (· = w.heap.size + 1) W (w5.setCell ⟨w.heap.size + 1, 0, none⟩ (.int .i64 dn)) := (hkC.out.mono fun _ _ h => h.elim).trans hset fun _ _ h => h
      refine ⟨keepsFrom_of hall (by have := HS0.out; omega), hall.mono fun _ _ h => .inl h, ?_, HK.out.trans hall fun _ _ h => h⟩
      rw [HDE.out]
      exact HB5.out.set_ 0 (.int .i64 dn)
    · go_wp2
      refine NoPanic.normal ?_
      have hd1 : dp = dn := by have := HDN.out; omega
      rw [hd1]
      have hset : Keep (· = w.heap.size + 1) w5 (w5.setCell ⟨w.heap.size + 1, 0, none⟩ (.int .i64 dn)) := Keep.setAt (Keep.refl (· = w.heap.size + 1) w5) (fun _ => rfl) 0 _
      have hall : Keep (· = w.heap.size + 1) W (w5.setCell ⟨w.heap.size + 1, 0, none⟩ (.int .i64 dn)) := (hkC.out.mono fun _ _ h => h.elim).trans hset fun _ _ h => h
      refine ⟨keepsFrom_of hall (by have := HS0.out; omega), hall.mono fun _ _ h => .inl h, ?_, HK.out.trans hall fun _ _ h => h⟩
      rw [HDE.out]
      exact HB5.out.set_ 0 (.int .i64 dn)
  case done =>
    rintro D xs W hD hxs ⟨hb, hk⟩ hK
    have q0 : W.cell? ⟨w.heap.size + 1, 0, none⟩ = some (.int .i64 (F.deeps (xs.map Kid.kv))) := hb.cell 0
    have HFIN := hid (show F.deeps (xs.map Kid.kv) = x.deep from by rw [hxs]; exact kids_deeps x)
    have HEND := hid (show Ext w (W.putObj D (.deferred none)) from (Keep.trans HE0.out hk fun k hk e => by omega).grown (grownBy_putObj' W D (.deferred none)) fun k e hk2 => by cases e; omega)
    clear hxs hb hk hst
    gi_wp2
    refine ⟨by simp, .inl ⟨_, _, rfl, run_takeDeferred hK, ?_⟩⟩
    refine ⟨_, results_tmp rfl _ _ _, ?_, HEND.out⟩
    show Ending.returned (.int .i64 (F.deeps (xs.map Kid.kv))) = _
    rw [HFIN.out]
  case stop =>
    rintro D c pre W _ _ h _
    exact h.elim
end Go.Proofs.YtaemmabaekjkeaaDoor
