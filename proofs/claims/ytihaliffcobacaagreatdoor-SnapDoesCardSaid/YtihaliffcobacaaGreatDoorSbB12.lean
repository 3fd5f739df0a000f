/- ValSound, EncH: laid together. -/
import Derived.Test.YtihaliffcobacaaGreatDoorSbB11
import Derived.Test.YtihaliffcobacaaGreatDoorSbB8
set_option linter.unusedSimpArgs false
set_option linter.unusedVariables false
set_option maxHeartbeats 25600000
set_option maxRecDepth 20000
namespace Go.Proofs.YtihaliffcobacaaGreatDoor
open Go.RowKit Go.Shelf
attribute [local go_sem] Oper.semAt_some
def BigR : Nat := 140737488355328
theorem bigR {n : Nat} (h : n ≤ BigR) : n ≤ 9223372036854775807 := by unfold BigR at h; omega
theorem kidsL_snd (l : List V) : (kidsL l).all F.snd = V.snds l := by
 rw [V.snds_all, kidsL, List.all_map]
 congr 1
theorem kids_snd (x : V) : x.snd = (plainB x && risesB x.o && (kids x).all F.snd) := by rw [V.snd_eq, kids, List.all_append, kidsL_snd, F.snds_all, Bool.and_assoc]
theorem kids_str {R : Nat} {x : V} (h : VStr R x) {f : F} (hf : f ∈ kids x) : f.key.size ≤ R ∧ VStr R f.v := by
 unfold kids kidsL at hf
 rcases List.mem_append.1 hf with hf | hf
 ·obtain ⟨y, hy, rfl⟩ := List.mem_map.1 hf
  exact ⟨Nat.zero_le _, h.l hy⟩
 ·exact h.o hf
set_option maxRecDepth 100000 in
theorem sound_any (w0 : World) (hv : ValAny w0) : ∀ (m : Nat) (x : V), x.size ≤ m → VStr BigR x → ∀ (u : Value) (S : BS) (w : World), Ext w0 w → VAt w S u x →
  Calls Tryz.prog 97 #[u] w fun e w' => e = .returned (.bool x.snd) ∧ Ext w w' := by
 intro m
 induction m with
 | zero => intro x h; have := x.size_pos; omega
 | succ m ih =>
 intro x hsz hstr u S w he hu
 have hks := kids_snd x
 obtain ⟨xs, hxs⟩ : ∃ b, x.snd = b := ⟨_, rfl⟩
 rw [hxs] at hks ⊢
 obtain ⟨lv, ov, rfl, hl, ho⟩ := hu.cut
 obtain ⟨A, c, rfl, hlc, hcm⟩ := hl.shape
 obtain ⟨A', c', rfl, hlc', hcm'⟩ := ho.shape
 have HIH := hid ih
 have HL := hid hl
 have HO := hid ho
 have HSZ := hid hsz
 have HST := hid hstr
 have HKS := hid hks
 have HV := hid (hv.ext he)
 have HE00 := hid he
 have HPL := hid (fun w1 (h : Ext w w1) => plain_any w0 hv x _ _ w1 (he.ext h) (bigR hstr.s) (VAt.ext ⟨_, _, rfl, hl, ho⟩ h))
 have HRI := hid (fun w1 (h : Ext w w1) => rising_any x.o _ _ w1 (ho.ext EField.ok h))
 clear ih hu hl ho hsz hv he hstr hks hxs
 obtain ⟨pb, hpb⟩ : ∃ pb, plainB x = pb := ⟨_, rfl⟩
 obtain ⟨rb, hrb⟩ : ∃ rb, risesB x.o = rb := ⟨_, rfl⟩
 rw [hpb] at HPL HKS
 rw [hrb] at HRI HKS
 clear hpb hrb
 have hE1 : Ext w ((w.alloc (.cells #[U8 x.kind, .int .i64 x.n, .string x.s, .slice A x.l.length c, .slice A' x.o.length c'] TVAL)).alloc (.cells #[.bool false] 4)) := ((Keep.refl _ _).alloc _).alloc _
 have hb0 := (Blk.new w TVAL #[U8 x.kind, .int .i64 x.n, .string x.s, .slice A x.l.length c, .slice A' x.o.length c']).alloc (.cells #[.bool false] 4)
 have hb1 := Blk.new (w.alloc (.cells #[U8 x.kind, .int .i64 x.n, .string x.s, .slice A x.l.length c, .slice A' x.o.length c'] TVAL)) 4 #[.bool false]
 rw [World.size_alloc] at hb1
 have HE1 := hid hE1
 have HB0 := hid hb0
 have HB1 := hid hb1
 clear hE1 hb0 hb1
 refine callsOf Tryz.func97 rfl ?_
 simp only [Tryz.ntmps97, List.size_toArray, List.length_cons, List.length_nil, Nat.reduceAdd, Nat.reduceSub, Array.replicate_succ, Array.replicate_zero, List.push_toArray, List.append_toArray, List.nil_append, List.cons_append]
 gi_wp2_with fail
 refine ⟨trivial, (callsIn_wide.2 (HPL.out _ HE1.out)).mono ?_⟩
 rintro e w2 ⟨rfl, hE2⟩
 replace HE1 := hid (HE1.out.ext hE2)
 replace HB0 := hid (HB0.out.keep hE2 id)
 replace HB1 := hid (HB1.out.keep hE2 id)
 clear hE2 HPL
 obtain ⟨q0, q1, q2, q3, q4⟩ := blk5 HB0.out
 have r0 := HB1.out.cell 0
 have f0 := HB1.out.frozen 0
 cases pb with
 | false =>
  have hxf := hid (show xs = false from by rw [HKS.out]; rfl)
  gi_wp2
  refine ⟨trivial, ?_⟩
  gi_wp2
  have hs := HB1.out.set_ 0 (.bool false)
  have hcs : (w2.setCell ⟨w.heap.size + 1, 0, none⟩ (.bool false)).cell? ⟨w.heap.size + 1, 0, none⟩ = some (.bool false) := hs.cell 0
  refine ⟨.bool false, by simp [results, Tryz.results97, go_sem, hcs], by rw [hxf.out], HE1.out.trans (Keep.setAt (Keep.refl (· = w.heap.size + 1) _) (fun _ => rfl) 0 _) fun k hk e => by omega⟩
 | true =>
  gi_wp2_with fail
  refine ⟨trivial, (callsIn_wide.2 (HRI.out _ HE1.out)).mono ?_⟩
  rintro e w3 ⟨rfl, hE3⟩
  replace HE1 := hid (HE1.out.ext hE3)
  replace HB0 := hid (HB0.out.keep hE3 id)
  replace HB1 := hid (HB1.out.keep hE3 id)
  clear hE3 HRI q0 q1 q2 q3 q4 r0 f0
  obtain ⟨q0, q1, q2, q3, q4⟩ := blk5 HB0.out
  have r0 := HB1.out.cell 0
  have f0 := HB1.out.frozen 0
  cases rb with
  | false =>
   have hxf := hid (show xs = false from by rw [HKS.out]; rfl)
   gi_wp2
   have hs := HB1.out.set_ 0 (.bool false)
   have hcs : (w3.setCell ⟨w.heap.size + 1, 0, none⟩ (.bool false)).cell? ⟨w.heap.size + 1, 0, none⟩ = some (.bool false) := hs.cell 0
   refine ⟨.bool false, by simp [results, Tryz.results97, go_sem, hcs], by rw [hxf.out], HE1.out.trans (Keep.setAt (Keep.refl (· = w.heap.size + 1) _) (fun _ => rfl) 0 _) fun k hk e => by omega⟩
  | true =>
   gi_wp2_with fail
   refine ⟨trivial, (callsIn_wide.2 (within_ok _ _ _ _ _ _)).mono ?_⟩
   rintro e w' ⟨rfl, rfl⟩
   gi_wp2_with fail
   have hb2 := Blk.new w3 TVAL #[U8 x.kind, .int .i64 x.n, .string x.s, .slice A x.l.length c, .slice A' x.o.length c']
   have hE0 : Ext w3 (w3.alloc (.cells #[U8 x.kind, .int .i64 x.n, .string x.s, .slice A x.l.length c, .slice A' x.o.length c'] TVAL)) := (Keep.refl _ _).alloc _
   have hws : w.heap.size + 1 < w3.heap.size := HB1.out.lt
   have hsz : (w3.alloc (.cells #[U8 x.kind, .int .i64 x.n, .string x.s, .slice A x.l.length c, .slice A' x.o.length c'] TVAL)).heap.size = w3.heap.size + 1 := by simp
   have HEW := hid (HE1.out.ext hE0)
   have HBW := hid (HB1.out.keep hE0 id)
   clear q0 q1 q2 q3 q4 r0 f0
   generalize w3.alloc (.cells #[U8 x.kind, .int .i64 x.n, .string x.s, .slice A x.l.length c, .slice A' x.o.length c'] TVAL) = W0 at *
   have HS0 := hid hsz
   have hst := within_stops 4 w3.heap.size (w.heap.size + 1) W0 _ x _ _ (by omega) hb2 (HL.out.ext EVal.ok HEW.out) (HO.out.ext EField.ok HEW.out) (fun f => f ∈ kids x) (fun f hf => hf) (fun k hk => by have := hk.2; omega) (by omega)
   clear hb2 hE0
   refine wpIn_rangeFunc_ownH rfl (by omega) (gf := 145) (lb := #[.pointer (some ⟨w3.heap.size, 0, none⟩)]) rfl trivial (enters_of Tryz.func145 (by kernel_rfl) rfl) hst kp_t kp_b (Below.refl _ _) (fun _ => rfl)
    (fun pre W => (∀ f ∈ pre.map Kid.kv, F.snd f = true) ∧ Blk W (w.heap.size + 1) 4 #[.bool false] ∧ Keep (· = w.heap.size + 1) W0 W)
    (fun c _ W => c = .ret ∧ xs = false ∧ Blk W (w.heap.size + 1) 4 #[.bool false] ∧ Keep (· = w.heap.size + 1) W0 W)
    (fun s X Y row hs hg hr => ⟨hs.1, hs.2.1.grown hg (fun e => by have := (hr _ e.symm).1; omega), hs.2.2.grown hg fun k e hk => by have := (hr k e).1; omega⟩)
    (fun c s X Y row hs hg hr => ⟨hs.1, hs.2.1, hs.2.2.1.grown hg (fun e => by have := (hr _ e.symm).1; omega), hs.2.2.2.grown hg fun k e hk => by have := (hr k e).1; omega⟩)
    ⟨by simp, HBW.out, Keep.refl _ _⟩
    (fun kid a' W => ∃ Bx, W0.heap.size ≤ Bx ∧ Blk W Bx TVAL #[U8 kid.v.kind, .int .i64 kid.v.n, .string kid.v.s, .slice kid.A1 kid.v.l.length kid.c1, .slice kid.A2 kid.v.o.length kid.c2] ∧ a' = { tmps := #[.agg #[U8 x.kind, .int .i64 x.n, .string x.s, .slice A x.l.length c, .slice A' x.o.length c'], .pointer (some ⟨w.heap.size, 0, none⟩), .pointer (some ⟨w.heap.size + 1, 0, none⟩), .string kid.key, .pointer (some ⟨Bx, 0, none⟩), .agg #[U8 x.kind, .int .i64 x.n, .string x.s, .slice A x.l.length c, .slice A' x.o.length c'], .bool true, .bool false, .bool false, .pointer (some ⟨w.heap.size, 4, none⟩), .slice A' x.o.length c', .bool true, .bool false, .bool false,
     .agg #[U8 x.kind, .int .i64 x.n, .string x.s, .slice A x.l.length c, .slice A' x.o.length c'], .func (.func 145) #[] #[.pointer (some ⟨w3.heap.size, 0, none⟩)], .string kid.key, .agg #[U8 kid.v.kind, .int .i64 kid.v.n, .string kid.v.s, .slice kid.A1 kid.v.l.length kid.c1, .slice kid.A2 kid.v.o.length kid.c2], undef, undef, undef, undef, undef, undef, undef, undef], defers := [] })
    (fun kid a' s X Y row hs hg hr => by
     obtain ⟨Bx, h1, h2, h3⟩ := hs
     refine ⟨Bx, h1, h2.grown hg (fun e => ?_), h3⟩
     obtain ⟨_, o, ho, hc⟩ := hr _ e.symm
     unfold Blk at h2
     rw [h2] at ho
     cases ho
     cases hc)
    ?assign ?body ?done ?stop
   case assign =>
    rintro l pre kid W K ⟨hp, hb, hk⟩ hK
    have hws := hk.size
    simp only [Kid.enc]
    gi_wp2
    exact hK _ _ ((KeepsOthers.alloc _ _).from _) (Keep.alloc (Keep.refl _ _) _) ⟨hp, hb.alloc _, hk.alloc _⟩ ⟨W.heap.size, hws, Blk.new _ _ _, rfl⟩
   case body =>
    rintro l pre kid a' W hlw _ ⟨hp, hb, hk⟩ ⟨Bx, hBx, hbx, rfl⟩ hlen
    have HB := hid hb
    have HK := hid hk
    have HP := hid hp
    have HBX := hid hbx
    have HKV := hid (VAt.keep kid.at_ hk fun k hk e => by have := hk.2; omega)
    have HOK := hid kid.ok
    have hkst := kids_str HST.out kid.ok
    have HKT := hid hkst
    have hWE : Ext w W := HEW.out.trans hk fun k hk e => by omega
    have HWE := hid hWE
    have hsnd : F.snd kid.kv = (Lib.validD kid.key.data.toList && kid.v.snd) := F.snd_eq kid.kv
    have HSND := hid hsnd
    have hbad : F.snd kid.kv = false → xs = false := fun h => by
     rw [HKS.out]
     have : (kids x).all F.snd = false := by
      rw [List.all_eq_false]
      exact ⟨kid.kv, kid.ok, by rw [h]; simp⟩
     rw [this]; rfl
    have HBAD := hid hbad
    clear hp hb hk hbx hkst hWE hsnd hbad hst
    gi_wp2_with fail
    refine ⟨trivial, (callsIn_round (HV.out kid.key (bigR HKT.out.1) _ HWE.out)).mono ?_⟩
    rintro e w4 ⟨rfl, hE4⟩
    have HE4 := hid hE4
    obtain ⟨p0, p1, p2, p3, p4⟩ := blk5 (HBX.out.keep hE4 id)
    have g0 := (HB.out.keep hE4 id).cell 0
    have gf0 := (HB.out.keep hE4 id).frozen 0
    clear hE4
    cases hvd : Lib.validD kid.key.data.toList with
    | false =>
     have HX := hid (HBAD.out (by rw [HSND.out, hvd]; rfl))
     clear hvd
     gi_wp2
     refine ⟨trivial, ?_⟩
     gi_wp2
     have hset : Keep (· = w.heap.size + 1) w4 (w4.setCell ⟨w.heap.size + 1, 0, none⟩ (.bool false)) := Keep.setAt (Keep.refl (· = w.heap.size + 1) w4) (fun _ => rfl) 0 _
     have hall : Keep (· = w.heap.size + 1) W (w4.setCell ⟨w.heap.size + 1, 0, none⟩ (.bool false)) := (HE4.out.mono fun _ _ h => h.elim).trans hset fun _ _ h => h
     exact ⟨keepsFrom_of hall (by have := HS0.out; omega), rfl, HX.out, (HB.out.keep HE4.out id).set_ 0 (.bool false), HK.out.trans hall fun _ _ h => h⟩
    | true =>
     have HVD := hid hvd
     clear hvd
     gi_wp2_with fail
     refine ⟨trivial, (callsIn_round (HIH.out kid.v (by have := kids_mem HOK.out; have h2 : kid.kv.v = kid.v := rfl; have := HSZ.out; simp only [F.v] at *; omega) HKT.out.2 _ _ w4 (HE00.out.ext (HWE.out.ext HE4.out)) (HKV.out.ext HE4.out))).mono ?_⟩
     rintro e w5 ⟨rfl, hE5⟩
     have HE5 := hid (HE4.out.ext hE5)
     have g0 := (HB.out.keep HE5.out id).cell 0
     have gf0 := (HB.out.keep HE5.out id).frozen 0
     clear hE5 p0 p1 p2 p3 p4
     cases hsv : kid.v.snd with
     | false =>
      have HX := hid (HBAD.out (by rw [HSND.out, hsv]; simp))
      clear hsv
      gi_wp2
      have hset : Keep (· = w.heap.size + 1) w5 (w5.setCell ⟨w.heap.size + 1, 0, none⟩ (.bool false)) := Keep.setAt (Keep.refl (· = w.heap.size + 1) w5) (fun _ => rfl) 0 _
      have hall : Keep (· = w.heap.size + 1) W (w5.setCell ⟨w.heap.size + 1, 0, none⟩ (.bool false)) := (HE5.out.mono fun _ _ h => h.elim).trans hset fun _ _ h => h
      exact ⟨keepsFrom_of hall (by have := HS0.out; omega), rfl, HX.out, (HB.out.keep HE5.out id).set_ 0 (.bool false), HK.out.trans hall fun _ _ h => h⟩
     | true =>
      have HX := hid (show F.snd kid.kv = true from by rw [HSND.out, hsv, HVD.out]; rfl)
      clear hsv
      gi_wp2
      have hall : Keep (· = w.heap.size + 1) W w5 := HE5.out.mono fun _ _ h => h.elim
      refine ⟨keepsFrom_of hall (by have := HS0.out; omega), hall.mono fun _ _ h => .inl h, fun f hf => ?_, HB.out.keep HE5.out id, HK.out.trans hall fun _ _ h => h⟩
      rw [List.map_append, List.mem_append] at hf
      rcases hf with hf | hf
      ·exact HP.out f hf
      ·rw [List.map_singleton, List.mem_singleton] at hf; rw [hf]; exact HX.out
   case done =>
    rintro D ys W hD hxs ⟨hp, hb, hk⟩ hK
    have hxt := hid (show xs = true from by
     rw [HKS.out]
     have : (kids x).all F.snd = true := List.all_eq_true.2 fun f hf => hp f (by rw [hxs]; exact hf)
     rw [this]; rfl)
    have r0 := hb.cell 0
    have f0 := hb.frozen 0
    have hset : Keep (· = w.heap.size + 1) W (W.setCell ⟨w.heap.size + 1, 0, none⟩ (.bool true)) := Keep.setAt (Keep.refl (· = w.heap.size + 1) W) (fun _ => rfl) 0 _
    have hK' := (KeepsOthers.setCell W ⟨w.heap.size + 1, 0, none⟩ (.bool true)).same D _ hK rfl
    have hbs := (hb.set_ 0 (.bool true)).grown (grownBy_putObj' (W.setCell ⟨w.heap.size + 1, 0, none⟩ (.bool true)) D (.deferred none)) (by simp; omega)
    have hcs : ((W.setCell ⟨w.heap.size + 1, 0, none⟩ (.bool true)).putObj D (.deferred none)).cell? ⟨w.heap.size + 1, 0, none⟩ = some (.bool true) := hbs.cell 0
    have HEND := hid (show Ext w ((W.setCell ⟨w.heap.size + 1, 0, none⟩ (.bool true)).putObj D (.deferred none)) from ((HEW.out.trans hk fun k hk e => by omega).trans hset fun k hk e => by omega).grown (grownBy_putObj' _ D (.deferred none)) fun k e hk2 => by cases e; have := HS0.out; omega)
    clear hp hxs hb hk hst hset hbs
    gi_wp2
    refine ⟨by simp, .inl ⟨_, _, rfl, run_takeDeferred hK', ?_⟩⟩
    refine ⟨.bool true, by simp [results, Tryz.results97, go_sem, hcs], by rw [hxt.out], HEND.out⟩
   case stop =>
    rintro D c2 pre W hD hpre ⟨rfl, hxf, hb, hk⟩ hK
    have hbs := hb.grown (grownBy_putObj' W D (.deferred none)) (by simp; omega)
    have hcs : (W.putObj D (.deferred none)).cell? ⟨w.heap.size + 1, 0, none⟩ = some (.bool false) := hbs.cell 0
    have HEND := hid (show Ext w (W.putObj D (.deferred none)) from (HEW.out.trans hk fun k hk e => by omega).grown (grownBy_putObj' _ D (.deferred none)) fun k e hk2 => by cases e; have := HS0.out; omega)
    have HXF := hid hxf
    clear hb hk hst hbs hxf
    gi_wp2
    refine ⟨by simp, .inl ⟨_, _, rfl, run_takeDeferred hK, ?_⟩⟩
    refine ⟨.bool false, by simp [results, Tryz.results97, go_sem, hcs], by rw [HXF.out], HEND.out⟩
end Go.Proofs.YtihaliffcobacaaGreatDoor
namespace Go.Proofs.YtihaliffcobacaaGreatDoor
open Go.RowKit
structure Wide (v : V) : Prop where
 size : v.size ≤ 1000000
 str : VStr BigR v
 weight : v.weight ≤ 4611686018427387904
def zV : V := .mk 0 0 ⟨#[]⟩ [] []
end Go.Proofs.YtihaliffcobacaaGreatDoor
