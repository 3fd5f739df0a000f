/- ValDeep, RefWeight, EncC, PencC: laid together. -/
import Derived.Test.YtihaliffcobacaaGreatDoorSbB11
import Derived.Test.YtihaliffcobacaaGreatDoorSbB6
import Derived.Test.YtihaliffcobacaaGreatDoorSbB8
import Derived.Test.YtihaliffcobacaaGreatDoorSbB12
import Derived.Test.YtihaliffcobacaaGreatDoorSbB13
import Derived.Test.YtihaliffcobacaaGreatDoorSbB7
set_option linter.unusedSimpArgs false
set_option linter.unusedVariables false
set_option maxHeartbeats 25600000
set_option maxRecDepth 20000
namespace Go.Proofs.YtihaliffcobacaaGreatDoor
open Go.RowKit Go.Shelf
attribute [local go_sem] Oper.semAt_some
theorem kidsL_deeps : ∀ l : List V, F.deeps (kidsL l) = V.deeps l
 | [] => by simp [kidsL, F.deeps, V.deeps]
 | v :: vs => by
  have := kidsL_deeps vs
  unfold kidsL at this ⊢
  rw [List.map_cons, F.deeps, V.deeps, this, F.deep]
theorem kids_deeps (x : V) : F.deeps (kids x) = x.deep := by rw [kids, F.deeps_append, kidsL_deeps, V.deep_eq]
mutual
theorem V.deep_lt : ∀ v : V, v.deep < v.size
 | .mk k n s l o => by
  have h1 := V.deeps_le l
  have h2 := F.deeps_le o
  rw [V.deep, V.size]; omega
theorem V.deeps_le : ∀ l : List V, V.deeps l ≤ V.sizes l
 | [] => by simp [V.deeps]
 | v :: vs => by
  have h1 := V.deep_lt v
  have h2 := V.deeps_le vs
  rw [V.deeps, V.sizes]; omega
theorem F.deep_le : ∀ f : F, f.deep ≤ f.size
 | .mk k v => by
  have h1 := V.deep_lt v
  rw [F.deep, F.size]; omega
theorem F.deeps_le : ∀ l : List F, F.deeps l ≤ F.sizes l
 | [] => by simp [F.deeps]
 | f :: fs => by
  have h1 := F.deep_le f
  have h2 := F.deeps_le fs
  rw [F.deeps, F.sizes]; omega
end
set_option maxRecDepth 100000 in
theorem deep_any : ∀ (m : Nat) (x : V), x.size ≤ m → m ≤ 1000000 → ∀ (u : Value) (S : BS) (w : World), VAt w S u x →
  Calls Tryz.prog 98 #[u] w fun e w' => e = .returned (.int .i64 x.deep) ∧ Ext w w' := by
 intro m
 induction m with
 | zero => intro x h _; have := x.size_pos; omega
 | succ m ih =>
 intro x hsz hmm u S w hu
 obtain ⟨lv, ov, rfl, hl, ho⟩ := hu.cut
 obtain ⟨A, c, rfl, hlc, hcm⟩ := hl.shape
 obtain ⟨A', c', rfl, hlc', hcm'⟩ := ho.shape
 have HIH := hid ih
 have HL := hid hl
 have HO := hid ho
 have HSZ := hid hsz
 have HMM := hid (show m ≤ 1000000 by omega)
 clear ih hu hl ho hsz hmm
 refine callsOf Tryz.func98 rfl ?_
 simp only [Tryz.ntmps98, List.size_toArray, List.length_cons, List.length_nil, Nat.reduceAdd, Nat.reduceSub, Array.replicate_succ, Array.replicate_zero, List.push_toArray, List.append_toArray, List.nil_append, List.cons_append]
 gi_wp2_with fail
 refine ⟨trivial, (callsIn_wide.2 (within_ok _ _ _ _ _ _)).mono ?_⟩
 rintro e w' ⟨rfl, rfl⟩
 gi_wp2_with fail
 obtain ⟨W0, hW0⟩ : ∃ W0, ((w.alloc (.cells #[U8 x.kind, .int .i64 x.n, .string x.s, .slice A x.l.length c, .slice A' x.o.length c'] TVAL)).alloc (.cells #[.int .i64 0] 3)).alloc (.cells #[U8 x.kind, .int .i64 x.n, .string x.s, .slice A x.l.length c, .slice A' x.o.length c'] TVAL) = W0 := ⟨_, rfl⟩
 have hE0 : Ext w W0 := by rw [← hW0]; exact (((Keep.refl _ _).alloc _).alloc _).alloc _
 have hsz : W0.heap.size = w.heap.size + 3 := by rw [← hW0]; simp
 have hb1 : Blk W0 (w.heap.size + 1) 3 #[.int .i64 0] := by
  have := (Blk.new (w.alloc (.cells #[U8 x.kind, .int .i64 x.n, .string x.s, .slice A x.l.length c, .slice A' x.o.length c'] TVAL)) 3 #[.int .i64 0]).alloc (.cells #[U8 x.kind, .int .i64 x.n, .string x.s, .slice A x.l.length c, .slice A' x.o.length c'] TVAL)
  rw [World.size_alloc] at this
  rw [← hW0]; exact this
 have hb2 : Blk W0 (w.heap.size + 1 + 1) TVAL #[U8 x.kind, .int .i64 x.n, .string x.s, .slice A x.l.length c, .slice A' x.o.length c'] := by
  have := Blk.new ((w.alloc (.cells #[U8 x.kind, .int .i64 x.n, .string x.s, .slice A x.l.length c, .slice A' x.o.length c'] TVAL)).alloc (.cells #[.int .i64 0] 3)) TVAL #[U8 x.kind, .int .i64 x.n, .string x.s, .slice A x.l.length c, .slice A' x.o.length c']
  rw [World.size_alloc, World.size_alloc] at this
  rw [← hW0]; exact this
 simp only [hW0]
 have HE0 := hid hE0
 have HS0 := hid hsz
 have hst := within_stops 4 (w.heap.size + 1 + 1) (w.heap.size + 1) W0 _ x _ _ (by omega) hb2 (HL.out.ext EVal.ok hE0) (HO.out.ext EField.ok hE0) (fun f => f.v.size ≤ m) (fun f hf => by have := kids_mem hf; have := HSZ.out; omega) (fun k hk => by have := hk.2; omega) (by omega)
 clear hW0 hE0 hb2
 refine wpIn_rangeFunc_ownH rfl (by omega) (gf := 145) (lb := #[.pointer (some ⟨w.heap.size + 1 + 1, 0, none⟩)]) rfl trivial (enters_of Tryz.func145 (by kernel_rfl) rfl) hst kp_t kp_b (Below.refl _ _) (fun _ => rfl)
  (fun pre W => Blk W (w.heap.size + 1) 3 #[.int .i64 (F.deeps (pre.map Kid.kv))] ∧ Keep (· = w.heap.size + 1) W0 W)
  (fun _ _ _ => False)
  (fun s X Y row hs hg hr => ⟨hs.1.grown hg (fun e => by have := (hr _ e.symm).1; omega), hs.2.grown hg fun k e hk => by have := (hr k e).1; omega⟩)
  (fun _ _ _ _ _ hs _ _ => hs.elim)
  ⟨by simpa [F.deeps] using hb1, Keep.refl _ _⟩
  (fun kid a' W => ∃ Bx, W0.heap.size ≤ Bx ∧ Blk W Bx TVAL #[U8 kid.v.kind, .int .i64 kid.v.n, .string kid.v.s, .slice kid.A1 kid.v.l.length kid.c1, .slice kid.A2 kid.v.o.length kid.c2] ∧ a' = { tmps := #[.agg #[U8 x.kind, .int .i64 x.n, .string x.s, .slice A x.l.length c, .slice A' x.o.length c'], .pointer (some ⟨w.heap.size, 0, none⟩), .int .i64 0, .pointer (some ⟨w.heap.size + 1, 0, none⟩), undef, .pointer (some ⟨Bx, 0, none⟩),
   .agg #[U8 x.kind, .int .i64 x.n, .string x.s, .slice A x.l.length c, .slice A' x.o.length c'], .func (.func 145) #[] #[.pointer (some ⟨w.heap.size + 1 + 1, 0, none⟩)], .string kid.key, .agg #[U8 kid.v.kind, .int .i64 kid.v.n, .string kid.v.s, .slice kid.A1 kid.v.l.length kid.c1, .slice kid.A2 kid.v.o.length kid.c2], undef, undef, undef, undef, undef, undef], defers := [] })
  (fun kid a' s X Y row hs hg hr => by
   obtain ⟨Bx, h1, h2, h3⟩ := hs
   refine ⟨Bx, h1, h2.grown hg (fun e => ?_), h3⟩
   obtain ⟨_, o, ho, hc⟩ := hr _ e.symm
   unfold Blk at h2
   rw [h2] at ho
   cases ho
   cases hc)
  ?assign ?body ?done ?stop
 case assign =>
  rintro l pre kid W K ⟨hb, hk⟩ hK
  have hws := hk.size
  simp only [Kid.enc]
  gi_wp2
  exact hK _ _ ((KeepsOthers.alloc _ _).from _) (Keep.alloc (Keep.refl _ _) _) ⟨hb.alloc _, hk.alloc _⟩ ⟨W.heap.size, hws, Blk.new _ _ _, rfl⟩
 case body =>
  rintro l pre kid a' W hlw _ ⟨hb, hk⟩ ⟨Bx, hBx, hbx, rfl⟩ hlen
  have q0 := hb.cell 0
  have f0 := hb.frozen 0
  obtain ⟨p0, p1, p2, p3, p4⟩ := blk5 hbx
  have q0 : W.cell? ⟨w.heap.size + 1, 0, none⟩ = some (.int .i64 (F.deeps (pre.map Kid.kv))) := q0
  have HB := hid hb
  have HK := hid hk
  have HV := hid (VAt.keep kid.at_ hk fun k hk e => by have := hk.2; omega)
  have HKS := hid kid.ok
  clear hb hk hbx hst
  have hdl := V.deep_lt kid.v
  have hdn : (kid.v.deep : Int) ≤ 1000000 := by have h1 : kid.v.size ≤ m := HKS.out; have := HMM.out; omega
  have hdn2 : F.deeps ((pre ++ [kid]).map Kid.kv) = max (F.deeps (pre.map Kid.kv)) (kid.v.deep + 1) := by
   rw [List.map_append, F.deeps_append, List.map_singleton, F.deeps_one, F.deep_eq]; rfl
  gi_wp2_with fail
  refine wpIn_region_parts [] [0, 1, 2, 3] [4, 5] (specOf [(2, fun v _ => v = .int .i64 kid.v.deep)]) (fun w' => Ext W w') (stable_cons (fun v w w' h he => h) stable_nil) (stableC_ext _) (by kernel_rfl) (by kernel_rfl) (by kernel_rfl) (fun ⟨_, _, h⟩ => h) (Keep.drew (Keep.refl _ _)) ?_
  refine pure_nil ?_
  iterate 2
   (try simp only [Act.put, sqa, sqb, sqc])
   refine growP_run rfl rfl rfl ?_
   apply Exists.intro
   refine ⟨fun w' hC hK => ?_, ?_⟩
   ·have q0 := sqw hC q0
    have p0 := sqw hC p0
    have p1 := sqw hC p1
    have p2 := sqw hC p2
    have p3 := sqw hC p3
    have p4 := sqw hC p4
    go_simp
    rfl
  (try simp only [Act.put, sqa, sqb, sqc])
  refine growP_eff rfl rfl rfl (fun w' hC hK => ?_) (fun v4 hv4 => ?_)
  ·unfold growAt
   go_simp
   refine grow_call ((HIH.out kid.v HKS.out HMM.out _ _ w' (HV.out.ext hC)).mono ?_)
   rintro e w'' ⟨rfl, h1⟩
   exact ⟨_, rfl, h1, rfl⟩
  obtain ⟨_, _, rfl⟩ := hv4.head
  iterate 1
   (try simp only [Act.put, sqa, sqb, sqc])
   refine growP_run rfl rfl rfl ?_
   apply Exists.intro
   refine ⟨fun w' hC hK => ?_, ?_⟩
   ·go_simp
    rfl
  refine growP_nil fun w5 hC _ => ?_
  have hb5 := HB.out.keep hC id
  have q5 : w5.cell? ⟨w.heap.size + 1, 0, none⟩ = some (.int .i64 (F.deeps (pre.map Kid.kv))) := hb5.cell 0
  have f5 := hb5.frozen 0
  have hkC := hid (show Ext W w5 from hC)
  have HB5 := hid hb5
  clear hC hv4 q0 f0 p0 p1 p2 p3 p4 hb5
  obtain ⟨dn, hdn3⟩ : ∃ dn, F.deeps ((pre ++ [kid]).map Kid.kv) = dn := ⟨_, rfl⟩
  rw [hdn3] at hdn2
  have HDE := hid hdn3
  have HDN := hid hdn2
  clear hdn2 hdn3
  generalize F.deeps (pre.map Kid.kv) = dp at *
  change wpList _ _ _ (_ :: _ :: []) _ _
  (try simp only [Act.put, sqa, sqb, sqc])
  by_cases hlt : (dp : Int) < kid.v.deep + 1
  ·go_wp2
   refine NoPanic.normal ?_
   have hd1 : (kid.v.deep : Int) + 1 = (dn : Nat) := by have := HDN.out; omega
   rw [hd1]
   try rw [Int.max_eq_right (show (dp : Int) ≤ (dn : Int) by omega)]
   have hset : Keep (· = w.heap.size + 1) w5 (w5.setCell ⟨w.heap.size + 1, 0, none⟩ (.int .i64 dn)) := Keep.setAt (Keep.refl (· = w.heap.size + 1) w5) (fun _ => rfl) 0 _
   have hall : Keep (· = w.heap.size + 1) W (w5.setCell ⟨w.heap.size + 1, 0, none⟩ (.int .i64 dn)) := (hkC.out.mono fun _ _ h => h.elim).trans hset fun _ _ h => h
   refine ⟨keepsFrom_of hall (by have := HS0.out; omega), hall.mono fun _ _ h => .inl h, ?_, HK.out.trans hall fun _ _ h => h⟩
   rw [HDE.out]
   exact HB5.out.set_ 0 (.int .i64 dn)
  ·go_wp2
   refine NoPanic.normal ?_
   have hd1 : dp = dn := by have := HDN.out; omega
   rw [hd1]
   try rw [Int.max_eq_left (show (kid.v.deep : Int) + 1 ≤ (dn : Int) by omega)]
   have hset : Keep (· = w.heap.size + 1) w5 (w5.setCell ⟨w.heap.size + 1, 0, none⟩ (.int .i64 dn)) := Keep.setAt (Keep.refl (· = w.heap.size + 1) w5) (fun _ => rfl) 0 _
   have hall : Keep (· = w.heap.size + 1) W (w5.setCell ⟨w.heap.size + 1, 0, none⟩ (.int .i64 dn)) := (hkC.out.mono fun _ _ h => h.elim).trans hset fun _ _ h => h
   refine ⟨keepsFrom_of hall (by have := HS0.out; omega), hall.mono fun _ _ h => .inl h, ?_, HK.out.trans hall fun _ _ h => h⟩
   rw [HDE.out]
   exact HB5.out.set_ 0 (.int .i64 dn)
 case done =>
  rintro D xs W hD hxs ⟨hb, hk⟩ hK
  have q0 : W.cell? ⟨w.heap.size + 1, 0, none⟩ = some (.int .i64 (F.deeps (xs.map Kid.kv))) := hb.cell 0
  have HFIN := hid (show F.deeps (xs.map Kid.kv) = x.deep from by rw [hxs]; exact kids_deeps x)
  have HEND := hid (show Ext w (W.putObj D (.deferred none)) from (Keep.trans HE0.out hk fun k hk e => by omega).grown (grownBy_putObj' W D (.deferred none)) fun k e hk2 => by cases e; omega)
  clear hxs hb hk hst
  gi_wp2
  refine ⟨by simp, .inl ⟨_, _, rfl, run_takeDeferred hK, ?_⟩⟩
  refine ⟨_, results_tmp rfl _ _ _, ?_, HEND.out⟩
  show Ending.returned (.int .i64 (F.deeps (xs.map Kid.kv))) = _
  rw [HFIN.out]
 case stop =>
  rintro D c pre W _ _ h _
  exact h.elim
end Go.Proofs.YtihaliffcobacaaGreatDoor
namespace Go.Proofs.YtihaliffcobacaaGreatDoor
open Go.RowKit
theorem wrap_two (a b : Int) : wrap64 (wrap64 a + wrap64 b) = wrap64 (a + b) := by unfold wrap64; omega
theorem rweight_any : ∀ (m : Nat) (x : V), x.size ≤ m → ∀ (u : Value) (S1 : BS) (w : World), VAt w S1 u x →
  Calls Tryz.prog 116 #[u] w fun e w' => e = .returned (.int .i64 (wrap64 x.weight)) ∧ Ext w w' := by
 intro m
 induction m with
 | zero => intro x h; have := x.size_pos; omega
 | succ m ih =>
 intro x hsz u S1 w hu
 have hlen := V.size_eq x
 have HIH := hid ih
 have HLM := hid (fun (z : V) (hz : z ∈ x.l) => (by have := V.sizes_mem hz; omega : z.size ≤ m))
 have HOM := hid (fun (z : F) (hz : z ∈ x.o) => (by have := F.sizes_mem hz; omega : z.v.size ≤ m))
 skip
 have HRES := hid (show wrap64 (1 + x.s.size + V.weights x.l + F.weights x.o) = wrap64 x.weight from by rw [V.weight_eq]; congr 1; omega)
 obtain ⟨res, hres⟩ : ∃ r, wrap64 x.weight = r := ⟨_, rfl⟩
 rw [hres] at HRES ⊢
 clear ih hlen hsz hres
 obtain ⟨l1, o1, rfl, h1, h2⟩ := hu
 obtain ⟨A1, c1, rfl, hc1, hm1⟩ := h1.shape
 obtain ⟨A2, c2, rfl, hc2, hm2⟩ := h2.shape
 unfold maxLen at hm1 hm2
 generalize x.kind = k at *
 generalize x.n = n at *
 generalize x.s = s at *
 generalize x.l = xs at *
 generalize x.o = xo at *
 have H1 := hid h1
 have H2 := hid h2
 have hb0 := Blk.new w TVAL #[U8 k, .int .i64 n, .string s, .slice A1 xs.length c1, .slice A2 xo.length c2]
 have hE : Ext w (w.alloc (.cells #[U8 k, .int .i64 n, .string s, .slice A1 xs.length c1, .slice A2 xo.length c2] TVAL)) := (Keep.refl _ _).alloc _
 have HB0 := hid hb0
 have HE := hid hE
 clear h1 h2 hb0 hE
 go_enter Tryz.func116, Tryz.ntmps116
 go_wp2_with fail
 generalize (w.alloc (.cells #[U8 k, .int .i64 n, .string s, .slice A1 xs.length c1, .slice A2 xo.length c2] TVAL)) = w0 at *
 go_loopw [3, 4] (fun a y wr => ∃ (j : Nat), j ≤ xs.length ∧ y = .int .i64 j ∧ a = .int .i64 (wrap64 (1 + s.size + V.weights (xs.take j))) ∧ Ext w0 wr) (fun _ y _ => xs.length - (intOf y).toNat)
 case atStart => exact ⟨0, by omega, rfl, by simp [V.weights], Keep.refl _ _⟩
 case round =>
  obtain ⟨j, hj, rfl, rfl, hr⟩ := hrel
  have hx := HB0.out.keep hr id
  have x3 : wr.cell? ⟨w.heap.size, 3, none⟩ = some (.slice A1 xs.length c1) := hx.cell 3
  have x4 : wr.cell? ⟨w.heap.size, 4, none⟩ = some (.slice A2 xo.length c2) := hx.cell 4
  have HR := hid (HE.out.ext hr)
  have HR0 := hid hr
  clear hx hr
  by_cases hlt : j < xs.length
  ·obtain ⟨b1, f1, d1, rfl, hb1, hs1, hr1, hc1'⟩ := (H1.out.ext EVal.ok HR.out).at_ EVal.ok hlt
   obtain ⟨B1, n1, z1, B2, n2, z2, rfl, _, _, hva⟩ := EVal_cells hr1
   have p0 := hc1' 0 _ rfl
   have p1 := hc1' 1 _ rfl
   have p2 := hc1' 2 _ rfl
   have p3 := hc1' 3 _ rfl
   have p4 := hc1' 4 _ rfl
   have e5' : EVal.size = 5 := rfl
   simp only [e5', Nat.add_zero] at p0 p1 p2 p3 p4
   have HVA := hid hva
   have HXM := hid (HLM.out xs[j] (List.getElem_mem hlt))
   have HNX := hid (show wrap64 (wrap64 (1 + s.size + V.weights (xs.take j)) + wrap64 xs[j].weight) = wrap64 (1 + s.size + V.weights (xs.take (j + 1))) from by rw [wrap_two, take_succ_get _ _ hlt, V.weights_append, V.weights_one]; congr 1; omega)
   have hjX : (j : Int) < xs.length := by omega
   clear hc1' hr1 hva e5' hs1 hb1
   generalize xs[j] = y at *
   skip
   skip
   go_wp2_with fail
   refine (HIH.out y HXM.out _ _ wr HVA.out).mono ?_
   rintro e w4 ⟨rfl, hE4⟩
   have HC4 := hid (HR0.out.ext hE4)
   clear hE4 x3 x4 p0 p1 p2 p3 p4 HVA
   go_wp2_with fail
   exact ⟨⟨j + 1, by omega, by go_num, by rw [HNX.out], HC4.out⟩, by simp [intOf]; omega⟩
  ·obtain rfl : j = xs.length := by omega
   rw [List.take_length]
   go_wp2_with fail
   clear x3 x4
   go_loopw [3, 5] (fun a y wr => ∃ (j : Nat), j ≤ xo.length ∧ y = .int .i64 j ∧ a = .int .i64 (wrap64 (1 + s.size + V.weights xs + F.weights (xo.take j))) ∧ Ext w0 wr) (fun _ y _ => xo.length - (intOf y).toNat)
   case atStart => exact ⟨0, by omega, rfl, by simp [F.weights, F.deeps], HR0.out⟩
   case round =>
    clear HR HR0
    obtain ⟨j, hj, rfl, rfl, hr⟩ := hrel
    have hx := HB0.out.keep hr id
    have x4 : wr.cell? ⟨w.heap.size, 4, none⟩ = some (.slice A2 xo.length c2) := hx.cell 4
    have HR := hid (HE.out.ext hr)
    have HR0 := hid hr
    clear hx hr
    by_cases hlt : j < xo.length
    ·obtain ⟨b1, f1, d1, rfl, hb1, hs1, hr1, hc1'⟩ := (H2.out.ext EField.ok HR.out).at_ EField.ok hlt
     obtain ⟨lv1, ov1, rfl, ⟨D1, g1, rfl⟩, ⟨D2, g2, rfl⟩, hva⟩ := EField_cells hr1
     have p0 := hc1' 0 _ rfl
     have p1 := hc1' 1 _ rfl
     have p2 := hc1' 2 _ rfl
     have p3 := hc1' 3 _ rfl
     have p4 := hc1' 4 _ rfl
     have p5 := hc1' 5 _ rfl
     have e5' : EField.size = 6 := rfl
     simp only [e5', Nat.add_zero] at p0 p1 p2 p3 p4 p5
     have HVA := hid hva
     have HXM := hid (HOM.out xo[j] (List.getElem_mem hlt))
     have HNX := hid (show wrap64 (wrap64 (1 + s.size + V.weights xs + F.weights (xo.take j)) + wrap64 (xo[j].key.size + wrap64 xo[j].v.weight)) = wrap64 (1 + s.size + V.weights xs + F.weights (xo.take (j + 1))) from by rw [wrap_add, take_succ_get _ _ hlt, F.weights_append, F.weights_one, F.weight_eq]; congr 1; omega)
     have hjX : (j : Int) < xo.length := by omega
     clear hc1' hr1 hva e5' hs1 hb1
     generalize xo[j] = y at *
     skip
     skip
     go_wp2_with fail
     refine wp_region_grow (specOf [(14, fun v _ => v = .int .i64 (wrap64 y.v.weight))]) (fun w' => Ext wr w') (stable_cons (fun v w w' h he => h) stable_nil) (stableC_ext _) (by kernel_rfl) (by kernel_rfl) (Keep.drew (Keep.refl _ _)) ?_
     iterate 14
      (try simp only [Act.put, sqa, sqb, sqc])
      refine grow_run rfl rfl rfl ?_
      apply Exists.intro
      refine ⟨fun w' hC hK => ?_, ?_⟩
      ·have x4 := sqw hC x4
       have p0 := sqw hC p0
       have p1 := sqw hC p1
       have p2 := sqw hC p2
       have p3 := sqw hC p3
       have p4 := sqw hC p4
       have p5 := sqw hC p5
       go_simp
       rfl
     (try simp only [Act.put, sqa, sqb, sqc])
     refine grow_eff rfl rfl rfl (fun w' hC hK => ?_) (fun v10 hv10 => ?_)
     ·unfold growAt
      go_simp
      refine grow_call ((HIH.out y.v HXM.out _ _ w' (HVA.out.ext hC)).mono ?_)
      rintro e w'' ⟨rfl, h1⟩
      exact ⟨_, rfl, h1, rfl⟩
     obtain ⟨_, _, rfl⟩ := hv10.head
     iterate 3
      (try simp only [Act.put, sqa, sqb, sqc])
      refine grow_run rfl rfl rfl ?_
      apply Exists.intro
      refine ⟨fun w' hC hK => ?_, ?_⟩
      ·go_simp
       rfl
     refine grow_nil fun w4 hC _ => ?_
     have HC4 := hid (HR0.out.ext (show Ext wr w4 from hC))
     clear hC hv10 x4 p0 p1 p2 p3 p4 p5 HVA
     go_wp2_with fail
     exact ⟨⟨j + 1, by omega, by go_num, by rw [HNX.out], HC4.out⟩, by simp [intOf]; omega⟩
    ·obtain rfl : j = xo.length := by omega
     rw [List.take_length, HRES.out]
     go_wp2_with fail
     go_ret
     exact ⟨rfl, HR.out⟩
theorem rdeep_any : ∀ (m : Nat) (x : V), x.size ≤ m → m ≤ 1000000 → ∀ (u : Value) (S1 : BS) (w : World), VAt w S1 u x →
  Calls Tryz.prog 115 #[u] w fun e w' => e = .returned (.int .i64 x.deep) ∧ Ext w w' := by
 intro m
 induction m with
 | zero => intro x h; have := x.size_pos; omega
 | succ m ih =>
 intro x hsz hmx u S1 w hu
 have hlen := V.size_eq x
 have HIH := hid ih
 have HLM := hid (fun (z : V) (hz : z ∈ x.l) => (by have := V.sizes_mem hz; omega : z.size ≤ m))
 have HOM := hid (fun (z : F) (hz : z ∈ x.o) => (by have := F.sizes_mem hz; omega : z.v.size ≤ m))
 have HMM := hid (show m ≤ 1000000 by omega)
 have HRES := hid (show ((max (V.deeps x.l) (F.deeps x.o) : Nat)) = x.deep from (V.deep_eq x).symm)
 obtain ⟨res, hres⟩ : ∃ r, x.deep = r := ⟨_, rfl⟩
 rw [hres] at HRES ⊢
 clear ih hlen hsz hres hmx
 obtain ⟨l1, o1, rfl, h1, h2⟩ := hu
 obtain ⟨A1, c1, rfl, hc1, hm1⟩ := h1.shape
 obtain ⟨A2, c2, rfl, hc2, hm2⟩ := h2.shape
 unfold maxLen at hm1 hm2
 generalize x.kind = k at *
 generalize x.n = n at *
 generalize x.s = s at *
 generalize x.l = xs at *
 generalize x.o = xo at *
 have H1 := hid h1
 have H2 := hid h2
 have hb0 := Blk.new w TVAL #[U8 k, .int .i64 n, .string s, .slice A1 xs.length c1, .slice A2 xo.length c2]
 have hE : Ext w (w.alloc (.cells #[U8 k, .int .i64 n, .string s, .slice A1 xs.length c1, .slice A2 xo.length c2] TVAL)) := (Keep.refl _ _).alloc _
 have HB0 := hid hb0
 have HE := hid hE
 clear h1 h2 hb0 hE
 go_enter Tryz.func115, Tryz.ntmps115
 go_wp2_with fail
 generalize (w.alloc (.cells #[U8 k, .int .i64 n, .string s, .slice A1 xs.length c1, .slice A2 xo.length c2] TVAL)) = w0 at *
 go_loopw [3, 4] (fun a y wr => ∃ (j : Nat), j ≤ xs.length ∧ y = .int .i64 j ∧ a = .int .i64 (V.deeps (xs.take j) : Int) ∧ Ext w0 wr) (fun _ y _ => xs.length - (intOf y).toNat)
 case atStart => exact ⟨0, by omega, rfl, by simp [V.deeps], Keep.refl _ _⟩
 case round =>
  obtain ⟨j, hj, rfl, rfl, hr⟩ := hrel
  have hx := HB0.out.keep hr id
  have x3 : wr.cell? ⟨w.heap.size, 3, none⟩ = some (.slice A1 xs.length c1) := hx.cell 3
  have x4 : wr.cell? ⟨w.heap.size, 4, none⟩ = some (.slice A2 xo.length c2) := hx.cell 4
  have HR := hid (HE.out.ext hr)
  have HR0 := hid hr
  clear hx hr
  by_cases hlt : j < xs.length
  ·obtain ⟨b1, f1, d1, rfl, hb1, hs1, hr1, hc1'⟩ := (H1.out.ext EVal.ok HR.out).at_ EVal.ok hlt
   obtain ⟨B1, n1, z1, B2, n2, z2, rfl, _, _, hva⟩ := EVal_cells hr1
   have p0 := hc1' 0 _ rfl
   have p1 := hc1' 1 _ rfl
   have p2 := hc1' 2 _ rfl
   have p3 := hc1' 3 _ rfl
   have p4 := hc1' 4 _ rfl
   have e5' : EVal.size = 5 := rfl
   simp only [e5', Nat.add_zero] at p0 p1 p2 p3 p4
   have HVA := hid hva
   have HXM := hid (HLM.out xs[j] (List.getElem_mem hlt))
   have HNX := hid (show V.deeps (xs.take (j + 1)) = max (V.deeps (xs.take j)) (xs[j].deep + 1) from by rw [take_succ_get _ _ hlt, V.deeps_append, V.deeps_one])
   have hjX : (j : Int) < xs.length := by omega
   clear hc1' hr1 hva e5' hs1 hb1
   generalize xs[j] = y at *
   have hdl := V.deep_lt y
   have hdn : (y.deep : Int) ≤ 1000000 := by have := HXM.out; have := HMM.out; omega
   generalize V.deeps (xs.take j) = dp at *
   go_wp2_with fail
   refine (HIH.out y HXM.out HMM.out _ _ wr HVA.out).mono ?_
   rintro e w4 ⟨rfl, hE4⟩
   have HC4 := hid (HR0.out.ext hE4)
   clear hE4 x3 x4 p0 p1 p2 p3 p4 HVA
   by_cases hmx : (dp : Int) < 1 + y.deep
   ·go_wp2_with fail
    exact ⟨⟨j + 1, by omega, by go_num, by have := HNX.out; congr 1; omega, HC4.out⟩, by simp [intOf]; omega⟩
   ·go_wp2_with fail
    exact ⟨⟨j + 1, by omega, by go_num, by have := HNX.out; congr 1; omega, HC4.out⟩, by simp [intOf]; omega⟩
  ·obtain rfl : j = xs.length := by omega
   rw [List.take_length]
   go_wp2_with fail
   clear x3 x4
   go_loopw [3, 5] (fun a y wr => ∃ (j : Nat), j ≤ xo.length ∧ y = .int .i64 j ∧ a = .int .i64 (max (V.deeps xs) (F.deeps (xo.take j)) : Nat) ∧ Ext w0 wr) (fun _ y _ => xo.length - (intOf y).toNat)
   case atStart => exact ⟨0, by omega, rfl, by simp [F.weights, F.deeps], HR0.out⟩
   case round =>
    clear HR HR0
    obtain ⟨j, hj, rfl, rfl, hr⟩ := hrel
    have hx := HB0.out.keep hr id
    have x4 : wr.cell? ⟨w.heap.size, 4, none⟩ = some (.slice A2 xo.length c2) := hx.cell 4
    have HR := hid (HE.out.ext hr)
    have HR0 := hid hr
    clear hx hr
    by_cases hlt : j < xo.length
    ·obtain ⟨b1, f1, d1, rfl, hb1, hs1, hr1, hc1'⟩ := (H2.out.ext EField.ok HR.out).at_ EField.ok hlt
     obtain ⟨lv1, ov1, rfl, ⟨D1, g1, rfl⟩, ⟨D2, g2, rfl⟩, hva⟩ := EField_cells hr1
     have p0 := hc1' 0 _ rfl
     have p1 := hc1' 1 _ rfl
     have p2 := hc1' 2 _ rfl
     have p3 := hc1' 3 _ rfl
     have p4 := hc1' 4 _ rfl
     have p5 := hc1' 5 _ rfl
     have e5' : EField.size = 6 := rfl
     simp only [e5', Nat.add_zero] at p0 p1 p2 p3 p4 p5
     have HVA := hid hva
     have HXM := hid (HOM.out xo[j] (List.getElem_mem hlt))
     have HNX := hid (show max (V.deeps xs) (F.deeps (xo.take (j + 1))) = max (max (V.deeps xs) (F.deeps (xo.take j))) (xo[j].v.deep + 1) from by rw [take_succ_get _ _ hlt, F.deeps_append, F.deeps_one, F.deep_eq]; omega)
     have hjX : (j : Int) < xo.length := by omega
     clear hc1' hr1 hva e5' hs1 hb1
     generalize xo[j] = y at *
     have hdl := V.deep_lt y.v
     have hdn : (y.v.deep : Int) ≤ 1000000 := by have := HXM.out; have := HMM.out; omega
     generalize max (V.deeps xs) (F.deeps (xo.take j)) = dp at *
     go_wp2_with fail
     refine (HIH.out y.v HXM.out HMM.out _ _ wr HVA.out).mono ?_
     rintro e w4 ⟨rfl, hE4⟩
     have HC4 := hid (HR0.out.ext hE4)
     clear hE4 x4 p0 p1 p2 p3 p4 p5 HVA
     by_cases hmx : (dp : Int) < 1 + y.v.deep
     ·go_wp2_with fail
      exact ⟨⟨j + 1, by omega, by go_num, by have := HNX.out; congr 1; omega, HC4.out⟩, by simp [intOf]; omega⟩
     ·go_wp2_with fail
      exact ⟨⟨j + 1, by omega, by go_num, by have := HNX.out; congr 1; omega, HC4.out⟩, by simp [intOf]; omega⟩
    ·obtain rfl : j = xo.length := by omega
     rw [List.take_length, HRES.out]
     go_wp2_with fail
     go_ret
     exact ⟨rfl, HR.out⟩
theorem Wide.wrap {v : V} (h : Wide v) : wrap64 v.weight = (v.weight : Int) := by have := h.weight; unfold wrap64; omega
set_option maxRecDepth 100000 in
theorem rlight_ok (w0 : World) (hva : ValAny w0) (v : V) (hw : Wide v) (u : Value) (S : BS) (w : World) (h0 : Ext w0 w) (hu : VAt w S u v) :
  Calls Tryz.prog 90 #[u] w fun e w' => e = .returned (.bool (lightB v)) ∧ Ext w w' := by
 have HVA := hid hva
 have HWI := hid hw
 have H0 := hid h0
 have hdl : (v.deep : Int) ≤ 1000000 := by have := V.deep_lt v; have := hw.size; omega
 obtain ⟨l1, o1, rfl, h1, h2⟩ := hu
 obtain ⟨A1, c1, rfl, _⟩ := h1.shape
 obtain ⟨A2, c2, rfl, _⟩ := h2.shape
 have hE : Ext w (w.alloc (.cells #[U8 v.kind, .int .i64 v.n, .string v.s, .slice A1 v.l.length c1, .slice A2 v.o.length c2] TVAL)) := (Keep.refl _ _).alloc _
 have HE := hid hE
 have HB := hid (Blk.new w TVAL #[U8 v.kind, .int .i64 v.n, .string v.s, .slice A1 v.l.length c1, .slice A2 v.o.length c2])
 have HV := hid (show VAt (w.alloc (.cells #[U8 v.kind, .int .i64 v.n, .string v.s, .slice A1 v.l.length c1, .slice A2 v.o.length c2] TVAL)) S (.agg #[U8 v.kind, .int .i64 v.n, .string v.s, .slice A1 v.l.length c1, .slice A2 v.o.length c2]) v from ⟨_, _, rfl, h1.ext EVal.ok hE, h2.ext EField.ok hE⟩)
 have HLB := hid (show lightB v = (v.snd && (decide ((v.deep : Int) ≤ 16) && decide (wrap64 v.weight ≤ 20000))) from by
  unfold lightB; rw [hw.wrap]
  congr 2 <;> exact decide_eq_decide.2 (by omega))
 rw [HLB.out]
 clear hva hw h0 h1 h2 hE HLB
 go_enter Tryz.func90, Tryz.ntmps90
 go_wp2_with fail
 generalize (w.alloc (.cells #[U8 v.kind, .int .i64 v.n, .string v.s, .slice A1 v.l.length c1, .slice A2 v.o.length c2] TVAL)) = W0 at *
 refine (rsound_any w0 HVA.out 1000000 v HWI.out.size HWI.out.str _ S W0 (H0.out.ext HE.out) HV.out).mono ?_
 rintro e w1 ⟨rfl, h1⟩
 have HV1 := hid (HV.out.ext h1)
 have HE1 := hid (HE.out.ext h1)
 have HB1 := hid (HB.out.keep h1 id)
 clear h1
 obtain ⟨q0, q1, q2, q3, q4⟩ := blk5 HB1.out
 obtain ⟨sb, hsb⟩ : ∃ sb, v.snd = sb := ⟨_, rfl⟩
 have HSB := hid hsb
 rw [hsb]
 clear hsb
 cases sb with
 | false =>
  go_wp2
  go_ret
  exact ⟨by rw [HSB.out]; rfl, HE1.out⟩
 | true =>
  go_wp2_with fail
  refine (rdeep_any 1000000 v HWI.out.size (Nat.le_refl _) _ S w1 HV1.out).mono ?_
  rintro e w2 ⟨rfl, h2⟩
  have HV2 := hid (HV1.out.ext h2)
  have HE2 := hid (HE1.out.ext h2)
  have HB2 := hid (HB1.out.keep h2 id)
  clear h2 q0 q1 q2 q3 q4
  obtain ⟨q0, q1, q2, q3, q4⟩ := blk5 HB2.out
  by_cases hd : (v.deep : Int) ≤ 16
  ·go_wp2_with fail
   refine (rweight_any 1000000 v HWI.out.size _ S w2 HV2.out).mono ?_
   rintro e w3 ⟨rfl, h3⟩
   have HE3 := hid (HE2.out.ext h3)
   have hdt : decide ((v.deep : Int) ≤ 16) = true := by simp [hd]
   clear h3 q0 q1 q2 q3 q4
   go_wp2
   go_ret
   exact ⟨by rw [HSB.out, hdt]; simp, HE3.out⟩
  ·have hdt : decide ((v.deep : Int) ≤ 16) = false := by simp; omega
   go_wp2
   go_ret
   exact ⟨by rw [HSB.out, hdt]; simp, HE2.out⟩
def ValBIs (W1 : World) (v : V) (e : Ending) (w' : World) : Prop := ∃ u, e = .returned (.tuple #[u, .int .i64 (valC v)]) ∧ Own EU8 w' W1.heap.size TU8 (fun _ => False) u (valB v) ∧ Ext W1 w'
set_option maxRecDepth 100000 in
theorem rval10_ok (w0 : World) (hva : ValAny w0) (v : V) (hw : Wide v) (u : Value) (S : BS) (w : World) (h0 : Ext w0 w) (hu : VAt w S u v) :
  Calls Tryz.prog 70 #[u] w (ValBIs w v) := by
 have HVA := hid hva
 have HWI := hid hw
 have H0 := hid h0
 have hu := hu.more (S' := fun k => k < w.heap.size) fun k h _ => h
 obtain ⟨l1, o1, rfl, h1, h2⟩ := hu
 obtain ⟨A1, c1, rfl, _⟩ := h1.shape
 obtain ⟨A2, c2, rfl, _⟩ := h2.shape
 have hE : Ext w (w.alloc (.cells #[U8 v.kind, .int .i64 v.n, .string v.s, .slice A1 v.l.length c1, .slice A2 v.o.length c2] TVAL)) := (Keep.refl _ _).alloc _
 have HE := hid hE
 have HSZ := hid (show (w.alloc (.cells #[U8 v.kind, .int .i64 v.n, .string v.s, .slice A1 v.l.length c1, .slice A2 v.o.length c2] TVAL)).heap.size = w.heap.size + 1 by simp)
 have HB := hid (Blk.new w TVAL #[U8 v.kind, .int .i64 v.n, .string v.s, .slice A1 v.l.length c1, .slice A2 v.o.length c2])
 have HV := hid (show VAt (w.alloc (.cells #[U8 v.kind, .int .i64 v.n, .string v.s, .slice A1 v.l.length c1, .slice A2 v.o.length c2] TVAL)) (fun k => k < w.heap.size) (.agg #[U8 v.kind, .int .i64 v.n, .string v.s, .slice A1 v.l.length c1, .slice A2 v.o.length c2]) v from ⟨_, _, rfl, h1.ext EVal.ok hE, h2.ext EField.ok hE⟩)
 clear hva hw h0 h1 h2 hE
 go_enter Tryz.func70, Tryz.ntmps70
 go_wp2_with fail
 generalize (w.alloc (.cells #[U8 v.kind, .int .i64 v.n, .string v.s, .slice A1 v.l.length c1, .slice A2 v.o.length c2] TVAL)) = W0 at *
 refine (rlight_ok w0 HVA.out v HWI.out _ _ W0 (H0.out.ext HE.out) HV.out).mono ?_
 rintro e w1 ⟨rfl, h1⟩
 have HV1 := hid (HV.out.ext h1)
 have HE1 := hid (HE.out.ext h1)
 have HB1 := hid (HB.out.keep h1 id)
 have HSZ1 := hid (show w.heap.size < w1.heap.size from by have := h1.size; have := HSZ.out; omega)
 clear h1
 obtain ⟨lb, hlb⟩ : ∃ lb, lightB v = lb := ⟨_, rfl⟩
 have HLB := hid hlb
 rw [hlb]
 clear hlb
 cases lb with
 | false =>
  have hC : valC v = 1 := by unfold valC; rw [HLB.out]; rfl
  have hB : valB v = [] := by unfold valB; rw [hC]; rfl
  have HF := hid (show ValBIs w v (.returned (.tuple #[.slice none 0 0, .int .i64 1])) w1 from ⟨_, by rw [hC], by rw [hB]; exact Own.nil _ _ _ _, HE1.out⟩)
  clear hC hB
  go_wp2
  go_ret2
  exact HF.out
 | true =>
  obtain ⟨q0, q1, q2, q3, q4⟩ := blk5 HB1.out
  have HLEN := hid (show (encV v).length ≤ 260000 from by have := light_weight HLB.out; have := encV_le13 v; omega)
  have hE2 : Ext w1 (w1.alloc (.cells #[.slice none 0 0] TWR)) := (Keep.refl _ _).alloc _
  have HV2 := hid (HV1.out.ext hE2)
  have HE2 := hid (HE1.out.ext hE2)
  have HZ2 := hid (show (w1.alloc (.cells #[.slice none 0 0] TWR)).heap.size = w1.heap.size + 1 by simp)
  have HWR := hid (show WrAt TWR (w1.alloc (.cells #[.slice none 0 0] TWR)) (w1.alloc (.cells #[.slice none 0 0] TWR)) w1.heap.size none [] from ⟨_, Blk.new _ _ _, Own.nil _ _ _ _, rfl, by simp, Keep.refl _ _⟩)
  have HB2 := hid (HB1.out.keep hE2 id)
  clear hE2 q0 q1 q2 q3 q4
  obtain ⟨q0, q1, q2, q3, q4⟩ := blk5 HB2.out
  go_wp2_with fail
  generalize (w1.alloc (.cells #[.slice none 0 0] TWR)) = w2 at *
  refine (rvalue_any 1000000 v HWI.out.size w2 w2 w1.heap.size none [] _ _ HWR.out HV2.out (fun k hk => by have := HSZ1.out; have := HZ2.out; omega) (by have := HLEN.out; simp; omega)).mono ?_
  rintro e w3 ⟨rfl, o3, ⟨X, hb, hown, _, hlt, hk⟩, _⟩
  rw [List.nil_append] at hown
  obtain ⟨A, c, rfl, hlc, hcm⟩ := hown.shape
  have x0 := hb.cell 0
  simp only [List.getElem?_toArray, List.getElem?_cons_zero] at x0
  have HO := hid hown
  have HK := hid (show Ext w w3 from HE2.out.trans hk fun k h1 h2 => by have := HSZ1.out; omega)
  have HEL := hid (rfl : (encV v).length = (encV v).length)
  obtain ⟨n, hn⟩ : ∃ n, (encV v).length = n := ⟨_, rfl⟩
  have HN := hid hn
  rw [hn] at x0 HO
  clear hb hown hk hlt q0 q1 q2 q3 q4 hn hlc
  by_cases hg : (60000 : Int) < n
  ·have hC : valC v = 3 := by unfold valC; rw [HLB.out, if_pos rfl, if_pos (by have := HN.out; omega)]
   have hB : valB v = [] := by unfold valB; rw [hC]; rfl
   have HF := hid (show ValBIs w v (.returned (.tuple #[.slice none 0 0, .int .i64 3])) w3 from ⟨_, by rw [hC], by rw [hB]; exact Own.nil _ _ _ _, HK.out⟩)
   clear hC hB
   go_wp2
   go_ret2
   exact HF.out
  ·have hC : valC v = 0 := by unfold valC; rw [HLB.out, if_pos rfl, if_neg (by have := HN.out; omega)]
   have hB : valB v = encV v := by unfold valB; rw [hC]; rfl
   have HF := hid (show ValBIs w v (.returned (.tuple #[.slice A n c, .int .i64 0])) w3 from ⟨_, by rw [hC], by rw [hB]; exact HO.out.less (by have := HSZ1.out; have := HZ2.out; omega), HK.out⟩)
   clear hC hB
   go_wp2
   go_ret2
   exact HF.out
theorem plight_ok (w0 : World) (hva : ValAny w0) (v : V) (hw : Wide v) (u : Value) (S : BS) (w : World) (h0 : Ext w0 w) (hu : VAt w S u v) :
  Calls Tryz.prog 79 #[u] w fun e w' => e = .returned (.bool (lightB v)) ∧ Ext w w' := by
 have HVA := hid hva
 have HWI := hid hw
 have H0 := hid h0
 have hdl : (v.deep : Int) ≤ 1000000 := by have := V.deep_lt v; have := hw.size; omega
 obtain ⟨l1, o1, rfl, h1, h2⟩ := hu
 obtain ⟨A1, c1, rfl, _⟩ := h1.shape
 obtain ⟨A2, c2, rfl, _⟩ := h2.shape
 have hE : Ext w (w.alloc (.cells #[U8 v.kind, .int .i64 v.n, .string v.s, .slice A1 v.l.length c1, .slice A2 v.o.length c2] TVAL)) := (Keep.refl _ _).alloc _
 have HE := hid hE
 have HB := hid (Blk.new w TVAL #[U8 v.kind, .int .i64 v.n, .string v.s, .slice A1 v.l.length c1, .slice A2 v.o.length c2])
 have HV := hid (show VAt (w.alloc (.cells #[U8 v.kind, .int .i64 v.n, .string v.s, .slice A1 v.l.length c1, .slice A2 v.o.length c2] TVAL)) S (.agg #[U8 v.kind, .int .i64 v.n, .string v.s, .slice A1 v.l.length c1, .slice A2 v.o.length c2]) v from ⟨_, _, rfl, h1.ext EVal.ok hE, h2.ext EField.ok hE⟩)
 have HLB := hid (show lightB v = (v.snd && (decide ((v.deep : Int) ≤ 16) && decide (wrap64 v.weight ≤ 20000))) from by
  unfold lightB; rw [hw.wrap]
  congr 2 <;> exact decide_eq_decide.2 (by omega))
 rw [HLB.out]
 clear hva hw h0 h1 h2 hE HLB
 go_enter Tryz.func79, Tryz.ntmps79
 go_wp2_with fail
 generalize (w.alloc (.cells #[U8 v.kind, .int .i64 v.n, .string v.s, .slice A1 v.l.length c1, .slice A2 v.o.length c2] TVAL)) = W0 at *
 refine (sound_any w0 HVA.out 1000000 v HWI.out.size HWI.out.str _ S W0 (H0.out.ext HE.out) HV.out).mono ?_
 rintro e w1 ⟨rfl, h1⟩
 have HV1 := hid (HV.out.ext h1)
 have HE1 := hid (HE.out.ext h1)
 have HB1 := hid (HB.out.keep h1 id)
 clear h1
 obtain ⟨q0, q1, q2, q3, q4⟩ := blk5 HB1.out
 obtain ⟨sb, hsb⟩ : ∃ sb, v.snd = sb := ⟨_, rfl⟩
 have HSB := hid hsb
 rw [hsb]
 clear hsb
 cases sb with
 | false =>
  go_wp2
  go_ret
  exact ⟨by rw [HSB.out]; rfl, HE1.out⟩
 | true =>
  go_wp2_with fail
  refine (deep_any 1000000 v HWI.out.size (Nat.le_refl _) _ S w1 HV1.out).mono ?_
  rintro e w2 ⟨rfl, h2⟩
  have HV2 := hid (HV1.out.ext h2)
  have HE2 := hid (HE1.out.ext h2)
  have HB2 := hid (HB1.out.keep h2 id)
  clear h2 q0 q1 q2 q3 q4
  obtain ⟨q0, q1, q2, q3, q4⟩ := blk5 HB2.out
  by_cases hd : (v.deep : Int) ≤ 16
  ·go_wp2_with fail
   refine (weight_any 1000000 v HWI.out.size _ S w2 HV2.out).mono ?_
   rintro e w3 ⟨rfl, h3⟩
   have HE3 := hid (HE2.out.ext h3)
   have hdt : decide ((v.deep : Int) ≤ 16) = true := by simp [hd]
   clear h3 q0 q1 q2 q3 q4
   go_wp2
   go_ret
   exact ⟨by rw [HSB.out, hdt]; simp, HE3.out⟩
  ·have hdt : decide ((v.deep : Int) ≤ 16) = false := by simp; omega
   go_wp2
   go_ret
   exact ⟨by rw [HSB.out, hdt]; simp, HE2.out⟩
def doneC (bs : List UInt8) : Int := if bs.length > 60000 then 3 else 0
def doneB (bs : List UInt8) : List UInt8 := if doneC bs = 0 then bs else []
theorem pdone_ok (b : Nat) (X : Value) (bs : List UInt8) (base : Nat) (w : World) (hb : Blk w b TWP #[X]) (hown : Own EU8 w base TU8 (fun _ => False) X bs) (hl : bs.length ≤ 260000) :
  Calls Tryz.prog 81 #[.pointer (some ⟨b, 0, none⟩)] w fun e w' => ∃ u, e = .returned (.tuple #[u, .int .u16 (doneC bs)]) ∧ Own EU8 w' base TU8 (fun _ => False) u (doneB bs) ∧ w' = w := by
 have HO := hid hown
 obtain ⟨A, c, rfl, hlc, hcm⟩ := hown.shape
 have x0 := hb.cell 0
 simp only [List.getElem?_toArray, List.getElem?_cons_zero] at x0
 obtain ⟨n, hn⟩ : ∃ n, bs.length = n := ⟨_, rfl⟩
 have HN := hid hn
 rw [hn] at x0 HO hl
 clear hown hn hlc hcm hb
 go_enter Tryz.func81, Tryz.ntmps81
 by_cases hg : (60000 : Int) < n
 ·have hC : doneC bs = 3 := by unfold doneC; rw [if_pos (by have := HN.out; omega)]
  have hB : doneB bs = [] := by unfold doneB; rw [hC]; rfl
  rw [hC, hB]
  clear hC hB
  go_wp2
  go_ret2
  exact ⟨_, rfl, Own.nil _ _ _ _, rfl⟩
 ·have hC : doneC bs = 0 := by unfold doneC; rw [if_neg (by have := HN.out; omega)]
  have hB : doneB bs = bs := by unfold doneB; rw [hC]; rfl
  rw [hC, hB]
  clear hC hB
  go_wp2
  go_ret2
  exact ⟨_, rfl, HO.out, rfl⟩
def PvalIs (W1 : World) (v : V) (e : Ending) (w' : World) : Prop := ∃ u, e = .returned (.tuple #[u, .int .u16 (valC v)]) ∧ Own EU8 w' W1.heap.size TU8 (fun _ => False) u (valB v) ∧ Ext W1 w'
set_option maxRecDepth 100000 in
theorem pval10_ok (w0 : World) (hva : ValAny w0) (v : V) (hw : Wide v) (u : Value) (S : BS) (w : World) (h0 : Ext w0 w) (hu : VAt w S u v) :
  Calls Tryz.prog 56 #[u] w (PvalIs w v) := by
 have HVA := hid hva
 have HWI := hid hw
 have H0 := hid h0
 have hu := hu.more (S' := fun k => k < w.heap.size) fun k h _ => h
 obtain ⟨l1, o1, rfl, h1, h2⟩ := hu
 obtain ⟨A1, c1, rfl, _⟩ := h1.shape
 obtain ⟨A2, c2, rfl, _⟩ := h2.shape
 have hE : Ext w (w.alloc (.cells #[U8 v.kind, .int .i64 v.n, .string v.s, .slice A1 v.l.length c1, .slice A2 v.o.length c2] TVAL)) := (Keep.refl _ _).alloc _
 have HE := hid hE
 have HSZ := hid (show (w.alloc (.cells #[U8 v.kind, .int .i64 v.n, .string v.s, .slice A1 v.l.length c1, .slice A2 v.o.length c2] TVAL)).heap.size = w.heap.size + 1 by simp)
 have HB := hid (Blk.new w TVAL #[U8 v.kind, .int .i64 v.n, .string v.s, .slice A1 v.l.length c1, .slice A2 v.o.length c2])
 have HV := hid (show VAt (w.alloc (.cells #[U8 v.kind, .int .i64 v.n, .string v.s, .slice A1 v.l.length c1, .slice A2 v.o.length c2] TVAL)) (fun k => k < w.heap.size) (.agg #[U8 v.kind, .int .i64 v.n, .string v.s, .slice A1 v.l.length c1, .slice A2 v.o.length c2]) v from ⟨_, _, rfl, h1.ext EVal.ok hE, h2.ext EField.ok hE⟩)
 clear hva hw h0 h1 h2 hE
 go_enter Tryz.func56, Tryz.ntmps56
 go_wp2_with fail
 generalize (w.alloc (.cells #[U8 v.kind, .int .i64 v.n, .string v.s, .slice A1 v.l.length c1, .slice A2 v.o.length c2] TVAL)) = W0 at *
 refine (plight_ok w0 HVA.out v HWI.out _ _ W0 (H0.out.ext HE.out) HV.out).mono ?_
 rintro e w1 ⟨rfl, h1⟩
 have HV1 := hid (HV.out.ext h1)
 have HE1 := hid (HE.out.ext h1)
 have HB1 := hid (HB.out.keep h1 id)
 have HSZ1 := hid (show w.heap.size < w1.heap.size from by have := h1.size; have := HSZ.out; omega)
 clear h1
 obtain ⟨lb, hlb⟩ : ∃ lb, lightB v = lb := ⟨_, rfl⟩
 have HLB := hid hlb
 rw [hlb]
 clear hlb
 cases lb with
 | false =>
  have hC : valC v = 1 := by unfold valC; rw [HLB.out]; rfl
  have hB : valB v = [] := by unfold valB; rw [hC]; rfl
  have HF := hid (show PvalIs w v (.returned (.tuple #[.slice none 0 0, .int .u16 1])) w1 from ⟨_, by rw [hC], by rw [hB]; exact Own.nil _ _ _ _, HE1.out⟩)
  clear hC hB
  go_wp2
  go_ret2
  exact HF.out
 | true =>
  obtain ⟨q0, q1, q2, q3, q4⟩ := blk5 HB1.out
  have HLEN := hid (show (encV v).length ≤ 260000 from by have := light_weight HLB.out; have := encV_le13 v; omega)
  have hE2 : Ext w1 (w1.alloc (.cells #[.slice none 0 0] TWP)) := (Keep.refl _ _).alloc _
  have HV2 := hid (HV1.out.ext hE2)
  have HE2 := hid (HE1.out.ext hE2)
  have HZ2 := hid (show (w1.alloc (.cells #[.slice none 0 0] TWP)).heap.size = w1.heap.size + 1 by simp)
  have HWR := hid (show WrAt TWP (w1.alloc (.cells #[.slice none 0 0] TWP)) (w1.alloc (.cells #[.slice none 0 0] TWP)) w1.heap.size none [] from ⟨_, Blk.new _ _ _, Own.nil _ _ _ _, rfl, by simp, Keep.refl _ _⟩)
  have HB2 := hid (HB1.out.keep hE2 id)
  clear hE2 q0 q1 q2 q3 q4
  obtain ⟨q0, q1, q2, q3, q4⟩ := blk5 HB2.out
  go_wp2_with fail
  generalize (w1.alloc (.cells #[.slice none 0 0] TWP)) = w2 at *
  refine (pvalue_any 1000000 v HWI.out.size w2 w2 w1.heap.size none [] _ _ HWR.out HV2.out (fun k hk => by have := HSZ1.out; have := HZ2.out; omega) (by have := HLEN.out; simp; omega)).mono ?_
  rintro e w3 ⟨rfl, o3, ⟨X, hb, hown, _, hlt, hk⟩, _⟩
  rw [List.nil_append] at hown
  have HK := hid (show Ext w w3 from HE2.out.trans hk fun k h1 h2 => by have := HSZ1.out; omega)
  have HO := hid (show Own EU8 w3 w.heap.size TU8 (fun _ => False) X (encV v) from hown.less (by have := HSZ1.out; have := HZ2.out; omega))
  have HBL := hid hb
  clear hb hown hk hlt q0 q1 q2 q3 q4
  go_wp2_with fail
  refine (pdone_ok _ X (encV v) _ w3 HBL.out HO.out HLEN.out).mono ?_
  rintro e w4 ⟨u, rfl, hu, rfl⟩
  have hC : doneC (encV v) = valC v := by unfold valC doneC; rw [HLB.out]; rfl
  have hB : doneB (encV v) = valB v := by unfold valB doneB; rw [hC]
  rw [hC]
  rw [hB] at hu
  have HF := hid (show PvalIs w v (.returned (.tuple #[u, .int .u16 (valC v)])) w4 from ⟨_, rfl, hu, HK.out⟩)
  clear hC hB hu
  go_wp2
  go_ret2
  exact HF.out
end Go.Proofs.YtihaliffcobacaaGreatDoor
