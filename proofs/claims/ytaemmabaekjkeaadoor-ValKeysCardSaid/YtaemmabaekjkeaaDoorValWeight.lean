/- val.Weight at any value. -/
import Derived.Test.YtaemmabaekjkeaaDoorWithin
import Derived.Test.YtaemmabaekjkeaaDoorVStr
set_option linter.unusedSimpArgs false
set_option linter.unusedVariables false
namespace Go.Proofs.YtaemmabaekjkeaaDoor
open Go.RowKit Go.Shelf
set_option linter.unusedVariables false
attribute [local go_sem] Oper.semAt_some

theorem callsOf {P : Program} {f : FuncId} {fn : Func} {c : Code} {args : Array Value} {w : World} {R : Ending → World → Prop} (hf : P.funcs[f]? = some fn) (hb : fn.body = some c)
    (h : c.wpIn Fence.wide 5 P (bodyPostM Fence.wide 5 P fn R) { tmps := args ++ Array.replicate (fn.ntmps - args.size) undef, defers := [] } w) : Calls P f args w R := callsIn_wide.1 (callsIn_of_wp_marks hf hb trivial h rfl)
theorem kidsL_append (a b : List V) : kidsL (a ++ b) = kidsL a ++ kidsL b := by simp [kidsL]
theorem kidsL_weights : ∀ l : List V, F.weights (kidsL l) = V.weights l
  | [] => by simp [kidsL, F.weights, V.weights]
  | v :: vs => by
    have := kidsL_weights vs
    unfold kidsL at this ⊢
    rw [List.map_cons, F.weights, V.weights, this, F.weight]
    show (0 : Nat) + _ + _ = _
    omega
theorem kids_weights (x : V) : 1 + x.s.size + F.weights (kids x) = x.weight := by rw [kids, F.weights_append, kidsL_weights, V.weight_eq]
theorem kids_mem {x : V} {f : F} (h : f ∈ kids x) : f.v.size < x.size := by
  have hs := V.size_eq x
  unfold kids kidsL at h
  rcases List.mem_append.1 h with h | h
  · obtain ⟨y, hy, rfl⟩ := List.mem_map.1 h
    have := V.sizes_mem hy
    show y.size < _
    omega
  · have := F.sizes_mem h
    omega
theorem wrap_add (a b c : Int) : wrap64 (wrap64 a + wrap64 (b + wrap64 c)) = wrap64 (a + (b + c)) := by unfold wrap64; omega

theorem keepsFrom_of {b B : Nat} {W W' : World} (h : Keep (· = b) W W') (hb : b < B) : KeepsFrom B W W' :=
  ⟨h.size, fun k o hB ho _ => (h.block k (Array.getElem?_eq_some_iff.1 ho).1 (by omega)).trans ho⟩
set_option maxRecDepth 100000 in
set_option maxHeartbeats 6400000 in
theorem weight_any : ∀ (m : Nat) (x : V), x.size ≤ m → ∀ (u : Value) (S : BS) (w : World), VAt w S u x →
    Calls Tryd.prog 15 #[u] w fun e w' => e = .returned (.int .i64 (wrap64 x.weight)) ∧ Ext w w' := by
  intro m
  induction m with
  | zero => intro x h; have := x.size_pos; omega
  | succ m ih =>
  intro x hsz u S w hu
  obtain ⟨lv, ov, rfl, hl, ho⟩ := hu.cut
  obtain ⟨A, c, rfl, hlc, hcm⟩ := hl.shape
  obtain ⟨A', c', rfl, hlc', hcm'⟩ := ho.shape
  have HIH := hid ih
  have HL := hid hl
  have HO := hid ho
  have HSZ := hid hsz
  clear ih hu hl ho hsz
  refine callsOf Tryd.func15 rfl ?_
  simp only [Tryd.ntmps15, List.size_toArray, List.length_cons, List.length_nil, Nat.reduceAdd, Nat.reduceSub, Array.replicate_succ, Array.replicate_zero, List.push_toArray, List.append_toArray, List.nil_append, List.cons_append]
  gi_wp2_with fail
  refine ⟨trivial, (callsIn_wide.2 (within_ok _ _ _ _ _ _)).mono ?_⟩
  rintro e w' ⟨rfl, rfl⟩
  gi_wp2_with fail
  obtain ⟨W0, hW0⟩ : ∃ W0, ((w.alloc (.cells #[U8 x.kind, .int .i64 x.n, .string x.s, .slice A x.l.length c, .slice A' x.o.length c'] TVAL)).alloc (.cells #[.int .i64 (wrap64 (1 + x.s.size))] 3)).alloc (.cells #[U8 x.kind, .int .i64 x.n, .string x.s, .slice A x.l.length c, .slice A' x.o.length c'] TVAL) = W0 := ⟨_, rfl⟩
  have hE0 : Ext w W0 := by rw [← hW0]; exact (((Keep.refl _ _).alloc _).alloc _).alloc _
  have hsz : W0.heap.size = w.heap.size + 3 := by rw [← hW0]; simp
  have hb1 : Blk W0 (w.heap.size + 1) 3 #[.int .i64 (wrap64 (1 + x.s.size))] := by
    have := (Blk.new (w.alloc (.cells #[U8 x.kind, .int .i64 x.n, .string x.s, .slice A x.l.length c, .slice A' x.o.length c'] TVAL)) 3 #[.int .i64 (wrap64 (1 + x.s.size))]).alloc (.cells #[U8 x.kind, .int .i64 x.n, .string x.s, .slice A x.l.length c, .slice A' x.o.length c'] TVAL)
    rw [World.size_alloc] at this
    rw [← hW0]; exact this
  have hb2 : Blk W0 (w.heap.size + 1 + 1) TVAL #[U8 x.kind, .int .i64 x.n, .string x.s, .slice A x.l.length c, .slice A' x.o.length c'] := by
    have := Blk.new ((w.alloc (.cells #[U8 x.kind, .int .i64 x.n, .string x.s, .slice A x.l.length c, .slice A' x.o.length c'] TVAL)).alloc (.cells #[.int .i64 (wrap64 (1 + x.s.size))] 3)) TVAL #[U8 x.kind, .int .i64 x.n, .string x.s, .slice A x.l.length c, .slice A' x.o.length c']
    rw [World.size_alloc, World.size_alloc] at this
    rw [← hW0]; exact this
  simp only [hW0]
  have HE0 := hid hE0
  have HS0 := hid hsz
  have hst := within_stops 4 (w.heap.size + 1 + 1) (w.heap.size + 1) W0 _ x _ _ (by omega) hb2 (HL.out.ext EVal.ok hE0) (HO.out.ext EField.ok hE0) (fun f => f.v.size ≤ m) (fun f hf => by have := kids_mem hf; have := HSZ.out; omega) (fun k hk => by have := hk.2; omega) (by omega)
  clear hW0 hE0 hb2
  refine wpIn_rangeFunc_ownH rfl (by omega) (gf := 40) (lb := #[.pointer (some ⟨w.heap.size + 1 + 1, 0, none⟩)]) rfl trivial (enters_of Tryd.func40 (by kernel_rfl) rfl) hst kp_t kp_b (Below.refl _ _) (fun _ => rfl)
    (fun pre W => Blk W (w.heap.size + 1) 3 #[.int .i64 (wrap64 (1 + x.s.size + F.weights (pre.map Kid.kv)))] ∧ Keep (· = w.heap.size + 1) W0 W)
    (fun _ _ _ => False)
    (fun s X Y row hs hg hr => ⟨hs.1.grown hg (fun e => by have := (hr _ e.symm).1; omega), hs.2.grown hg fun k e hk => by have := (hr k e).1; omega⟩)
    (fun _ _ _ _ _ hs _ _ => hs.elim)
    ⟨by simpa [F.weights] using hb1, Keep.refl _ _⟩
    (fun kid a' W => ∃ Bx, W0.heap.size ≤ Bx ∧ Blk W Bx TVAL #[U8 kid.v.kind, .int .i64 kid.v.n, .string kid.v.s, .slice kid.A1 kid.v.l.length kid.c1, .slice kid.A2 kid.v.o.length kid.c2] ∧ a' = { tmps := #[.agg #[U8 x.kind, .int .i64 x.n, .string x.s, .slice A x.l.length c, .slice A' x.o.length c'], .pointer (some ⟨w.heap.size, 0, none⟩), .int .i64 0, .pointer (some ⟨w.heap.size + 1, 0, none⟩), .string kid.key, .pointer (some ⟨Bx, 0, none⟩), .pointer (some ⟨w.heap.size, 2, none⟩), .string x.s, .int .i64 x.s.size, .int .i64 (wrap64 (1 + x.s.size)),
      .agg #[U8 x.kind, .int .i64 x.n, .string x.s, .slice A x.l.length c, .slice A' x.o.length c'], .func (.func 40) #[] #[.pointer (some ⟨w.heap.size + 1 + 1, 0, none⟩)], .string kid.key, .agg #[U8 kid.v.kind, .int .i64 kid.v.n, .string kid.v.s, .slice kid.A1 kid.v.l.length kid.c1, .slice kid.A2 kid.v.o.length kid.c2], undef, undef, undef, undef, undef, undef, undef, undef], defers := [] })
    (fun kid a' s X Y row hs hg hr => by
      obtain ⟨Bx, h1, h2, h3⟩ := hs
      refine ⟨Bx, h1, h2.grown hg (fun e => ?_), h3⟩
      obtain ⟨_, o, ho, hc⟩ := hr _ e.symm
      unfold Blk at h2
      rw [h2] at ho
      cases ho
      cases hc)
    ?assign ?body ?done ?stop
  case assign =>
    rintro l pre kid W K ⟨hb, hk⟩ hK
    have hws := hk.size
    simp only [Kid.enc]
    gi_wp2
    exact hK _ _ ((KeepsOthers.alloc _ _).from _) (Keep.alloc (Keep.refl _ _) _) ⟨hb.alloc _, hk.alloc _⟩ ⟨W.heap.size, hws, Blk.new _ _ _, rfl⟩
  case body =>
    rintro l pre kid a' W hlw _ ⟨hb, hk⟩ ⟨Bx, hBx, hbx, rfl⟩ hlen
    have q0 := hb.cell 0
    have f0 := hb.frozen 0
    obtain ⟨p0, p1, p2, p3, p4⟩ := blk5 hbx
    have q0 : W.cell? ⟨w.heap.size + 1, 0, none⟩ = some (.int .i64 (wrap64 (1 + x.s.size + F.weights (pre.map Kid.kv)))) := q0
    have HB := hid hb
    have HK := hid hk
    have HV := hid (VAt.keep kid.at_ hk fun k hk e => by have := hk.2; omega)
    have HKS := hid kid.ok
    clear hb hk hbx hst
    gi_wp2_with fail
    refine wpIn_region_parts [1, 2] [0, 3, 4, 5] [6, 7] (specOf [(4, fun v _ => v = .int .i64 (wrap64 kid.v.weight))]) (fun w' => Ext W w') (stable_cons (fun v w w' h he => h) stable_nil) (stableC_ext _) (by kernel_rfl) (by kernel_rfl) (by kernel_rfl) (fun ⟨_, _, h⟩ => h) (Keep.drew (Keep.refl _ _)) ?_
    iterate 2
      (try simp only [Act.put, List.setIfInBounds_toArray, List.set_cons_zero, List.set_cons_succ])
      refine pure_run rfl rfl ?_
      apply Exists.intro
      refine ⟨fun w' => ?_, ?_⟩
      · go_simp
        rfl
    refine pure_nil ?_
    iterate 2
      (try simp only [Act.put, List.setIfInBounds_toArray, List.set_cons_zero, List.set_cons_succ])
      refine growP_run rfl rfl rfl ?_
      apply Exists.intro
      refine ⟨fun w' hC hK => ?_, ?_⟩
      · have q0 := (hC.cell (lt_of_cell q0) id).trans q0
        have p0 := (hC.cell (lt_of_cell p0) id).trans p0
        have p1 := (hC.cell (lt_of_cell p1) id).trans p1
        have p2 := (hC.cell (lt_of_cell p2) id).trans p2
        have p3 := (hC.cell (lt_of_cell p3) id).trans p3
        have p4 := (hC.cell (lt_of_cell p4) id).trans p4
        go_simp
        rfl
    (try simp only [Act.put, List.setIfInBounds_toArray, List.set_cons_zero, List.set_cons_succ])
    refine growP_eff rfl rfl rfl (fun w' hC hK => ?_) (fun v4 hv4 => ?_)
    · unfold growAt
      go_simp
      refine grow_call ((HIH.out kid.v HKS.out _ _ w' (HV.out.ext hC)).mono ?_)
      rintro e w'' ⟨rfl, h1⟩
      exact ⟨_, rfl, h1, rfl⟩
    obtain ⟨_, _, rfl⟩ := hv4.head
    iterate 1
      (try simp only [Act.put, List.setIfInBounds_toArray, List.set_cons_zero, List.set_cons_succ])
      refine growP_run rfl rfl rfl ?_
      apply Exists.intro
      refine ⟨fun w' hC hK => ?_, ?_⟩
      · go_simp
        rfl
    refine growP_nil fun w5 hC _ => ?_
    have hb5 := HB.out.keep hC id
    have q5 : w5.cell? ⟨w.heap.size + 1, 0, none⟩ = some (.int .i64 (wrap64 (1 + x.s.size + F.weights (pre.map Kid.kv)))) := hb5.cell 0
    have f5 := hb5.frozen 0
    have hkC := hid (show Ext W w5 from hC)
    have HB5 := hid hb5
    clear hC hv4 q0 f0 p0 p1 p2 p3 p4 hb5
    change wpList _ _ _ (_ :: _ :: []) _ _
    (try simp only [Act.put, List.setIfInBounds_toArray, List.set_cons_zero, List.set_cons_succ])
    go_wp2
    refine NoPanic.normal ?_
    have hset : Keep (· = w.heap.size + 1) w5 (w5.setCell ⟨w.heap.size + 1, 0, none⟩ (.int .i64 (wrap64 (wrap64 (1 + x.s.size + F.weights (pre.map Kid.kv)) + wrap64 (kid.key.size + wrap64 kid.v.weight))))) := Keep.setAt (Keep.refl (· = w.heap.size + 1) w5) (fun _ => rfl) 0 _
    have hall : Keep (· = w.heap.size + 1) W (w5.setCell ⟨w.heap.size + 1, 0, none⟩ (.int .i64 (wrap64 (wrap64 (1 + x.s.size + F.weights (pre.map Kid.kv)) + wrap64 (kid.key.size + wrap64 kid.v.weight))))) := (hkC.out.mono fun _ _ h => h.elim).trans hset fun _ _ h => h
    refine ⟨keepsFrom_of hall (by have := HS0.out; omega), hall.mono fun _ _ h => .inl h, ?_, HK.out.trans hall fun _ _ h => h⟩
    have hs := HB5.out.set_ 0 (.int .i64 (wrap64 (wrap64 (1 + x.s.size + F.weights (pre.map Kid.kv)) + wrap64 (kid.key.size + wrap64 kid.v.weight))))
    have hsum : wrap64 (1 + x.s.size + F.weights ((pre ++ [kid]).map Kid.kv)) = wrap64 (wrap64 (1 + x.s.size + F.weights (pre.map Kid.kv)) + wrap64 (kid.key.size + wrap64 kid.v.weight)) := by
      rw [wrap_add, List.map_append, F.weights_append, List.map_singleton, F.weights_one, F.weight_eq]
      congr 1
      show _ = _
      simp only [Kid.kv, F.key, F.v]
      omega
    rw [hsum]
    exact hs
  case done =>
    rintro D xs W hD hxs ⟨hb, hk⟩ hK
    have q0 : W.cell? ⟨w.heap.size + 1, 0, none⟩ = some (.int .i64 (wrap64 (1 + x.s.size + F.weights (xs.map Kid.kv)))) := hb.cell 0
    have hfin := kids_weights x
    have HFIN := hid (show wrap64 (1 + x.s.size + F.weights (xs.map Kid.kv)) = wrap64 x.weight from by rw [hxs]; congr 1; omega)
    have HEND := hid (show Ext w (W.putObj D (.deferred none)) from (Keep.trans HE0.out hk fun k hk e => by omega).grown (grownBy_putObj' W D (.deferred none)) fun k e hk2 => by cases e; omega)
    clear hfin hxs hb hk hst
    gi_wp2
    refine ⟨by simp, .inl ⟨_, _, rfl, run_takeDeferred hK, ?_⟩⟩
    refine ⟨_, results_tmp rfl _ _ _, ?_, HEND.out⟩
    show Ending.returned (.int .i64 (wrap64 (1 + x.s.size + F.weights (xs.map Kid.kv)))) = _
    rw [HFIN.out]
  case stop =>
    rintro D c pre W _ _ h _
    exact h.elim
end Go.Proofs.YtaemmabaekjkeaaDoor
