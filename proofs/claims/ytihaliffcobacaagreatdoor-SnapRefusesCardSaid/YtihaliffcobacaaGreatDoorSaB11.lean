/- ValSound, EncH, RefSoundAny, ValDeep, RefWeight, EncC, PencC, Crc, CrcLaw: laid together. -/
import Derived.Test.YtihaliffcobacaaGreatDoorSaB10
import Derived.Test.YtihaliffcobacaaGreatDoorSaB7
import Derived.Test.YtihaliffcobacaaGreatDoorSaB5
import Derived.Test.YtihaliffcobacaaGreatDoorSaB6
set_option linter.unusedSimpArgs false
set_option linter.unusedVariables false
set_option maxHeartbeats 25600000
set_option maxRecDepth 20000
namespace Go.Proofs.YtihaliffcobacaaGreatDoor
open Go.RowKit Go.Shelf
attribute [local go_sem] Oper.semAt_some
def BigR : Nat := 140737488355328
theorem bigR {n : Nat} (h : n ≤ BigR) : n ≤ 9223372036854775807 := by unfold BigR at h; omega
theorem kidsL_snd (l : List V) : (kidsL l).all F.snd = V.snds l := by
 rw [V.snds_all, kidsL, List.all_map]
 congr 1
theorem kids_snd (x : V) : x.snd = (plainB x && risesB x.o && (kids x).all F.snd) := by rw [V.snd_eq, kids, List.all_append, kidsL_snd, F.snds_all, Bool.and_assoc]
theorem kids_str {R : Nat} {x : V} (h : VStr R x) {f : F} (hf : f ∈ kids x) : f.key.size ≤ R ∧ VStr R f.v := by
 unfold kids kidsL at hf
 rcases List.mem_append.1 hf with hf | hf
 ·obtain ⟨y, hy, rfl⟩ := List.mem_map.1 hf
  exact ⟨Nat.zero_le _, h.l hy⟩
 ·exact h.o hf
set_option maxRecDepth 100000 in
theorem sound_any (w0 : World) (hv : ValAny w0) : ∀ (m : Nat) (x : V), x.size ≤ m → VStr BigR x → ∀ (u : Value) (S : BS) (w : World), Ext w0 w → VAt w S u x →
  Calls Tryz.prog 97 #[u] w fun e w' => e = .returned (.bool x.snd) ∧ Ext w w' := by
 intro m
 induction m with
 | zero => intro x h; have := x.size_pos; omega
 | succ m ih =>
 intro x hsz hstr u S w he hu
 have hks := kids_snd x
 obtain ⟨xs, hxs⟩ : ∃ b, x.snd = b := ⟨_, rfl⟩
 rw [hxs] at hks ⊢
 obtain ⟨lv, ov, rfl, hl, ho⟩ := hu.cut
 obtain ⟨A, c, rfl, hlc, hcm⟩ := hl.shape
 obtain ⟨A', c', rfl, hlc', hcm'⟩ := ho.shape
 have HIH := hid ih
 have HL := hid hl
 have HO := hid ho
 have HSZ := hid hsz
 have HST := hid hstr
 have HKS := hid hks
 have HV := hid (hv.ext he)
 have HE00 := hid he
 have HPL := hid (fun w1 (h : Ext w w1) => plain_any w0 hv x _ _ w1 (he.ext h) (bigR hstr.s) (VAt.ext ⟨_, _, rfl, hl, ho⟩ h))
 have HRI := hid (fun w1 (h : Ext w w1) => rising_any x.o _ _ w1 (ho.ext EField.ok h))
 clear ih hu hl ho hsz hv he hstr hks hxs
 obtain ⟨pb, hpb⟩ : ∃ pb, plainB x = pb := ⟨_, rfl⟩
 obtain ⟨rb, hrb⟩ : ∃ rb, risesB x.o = rb := ⟨_, rfl⟩
 rw [hpb] at HPL HKS
 rw [hrb] at HRI HKS
 clear hpb hrb
 have hE1 : Ext w ((w.alloc (.cells #[U8 x.kind, .int .i64 x.n, .string x.s, .slice A x.l.length c, .slice A' x.o.length c'] TVAL)).alloc (.cells #[.bool false] 4)) := ((Keep.refl _ _).alloc _).alloc _
 have hb0 := (Blk.new w TVAL #[U8 x.kind, .int .i64 x.n, .string x.s, .slice A x.l.length c, .slice A' x.o.length c']).alloc (.cells #[.bool false] 4)
 have hb1 := Blk.new (w.alloc (.cells #[U8 x.kind, .int .i64 x.n, .string x.s, .slice A x.l.length c, .slice A' x.o.length c'] TVAL)) 4 #[.bool false]
 rw [World.size_alloc] at hb1
 have HE1 := hid hE1
 have HB0 := hid hb0
 have HB1 := hid hb1
 clear hE1 hb0 hb1
 refine callsOf Tryz.func97 rfl ?_
 simp only [Tryz.ntmps97, List.size_toArray, List.length_cons, List.length_nil, Nat.reduceAdd, Nat.reduceSub, Array.replicate_succ, Array.replicate_zero, List.push_toArray, List.append_toArray, List.nil_append, List.cons_append]
 gi_wp2_with fail
 refine ⟨trivial, (callsIn_wide.2 (HPL.out _ HE1.out)).mono ?_⟩
 rintro e w2 ⟨rfl, hE2⟩
 replace HE1 := hid (HE1.out.ext hE2)
 replace HB0 := hid (HB0.out.keep hE2 id)
 replace HB1 := hid (HB1.out.keep hE2 id)
 clear hE2 HPL
 obtain ⟨q0, q1, q2, q3, q4⟩ := blk5 HB0.out
 have r0 := HB1.out.cell 0
 have f0 := HB1.out.frozen 0
 cases pb with
 | false =>
  have hxf := hid (show xs = false from by rw [HKS.out]; rfl)
  gi_wp2
  refine ⟨trivial, ?_⟩
  gi_wp2
  have hs := HB1.out.set_ 0 (.bool false)
  have hcs : (w2.setCell ⟨w.heap.size + 1, 0, none⟩ (.bool false)).cell? ⟨w.heap.size + 1, 0, none⟩ = some (.bool false) := hs.cell 0
  refine ⟨.bool false, by simp [results, Tryz.results97, go_sem, hcs], by rw [hxf.out], HE1.out.trans (Keep.setAt (Keep.refl (· = w.heap.size + 1) _) (fun _ => rfl) 0 _) fun k hk e => by omega⟩
 | true =>
  gi_wp2_with fail
  refine ⟨trivial, (callsIn_wide.2 (HRI.out _ HE1.out)).mono ?_⟩
  rintro e w3 ⟨rfl, hE3⟩
  replace HE1 := hid (HE1.out.ext hE3)
  replace HB0 := hid (HB0.out.keep hE3 id)
  replace HB1 := hid (HB1.out.keep hE3 id)
  clear hE3 HRI q0 q1 q2 q3 q4 r0 f0
  obtain ⟨q0, q1, q2, q3, q4⟩ := blk5 HB0.out
  have r0 := HB1.out.cell 0
  have f0 := HB1.out.frozen 0
  cases rb with
  | false =>
   have hxf := hid (show xs = false from by rw [HKS.out]; rfl)
   gi_wp2
   have hs := HB1.out.set_ 0 (.bool false)
   have hcs : (w3.setCell ⟨w.heap.size + 1, 0, none⟩ (.bool false)).cell? ⟨w.heap.size + 1, 0, none⟩ = some (.bool false) := hs.cell 0
   refine ⟨.bool false, by simp [results, Tryz.results97, go_sem, hcs], by rw [hxf.out], HE1.out.trans (Keep.setAt (Keep.refl (· = w.heap.size + 1) _) (fun _ => rfl) 0 _) fun k hk e => by omega⟩
  | true =>
   gi_wp2_with fail
   refine ⟨trivial, (callsIn_wide.2 (within_ok _ _ _ _ _ _)).mono ?_⟩
   rintro e w' ⟨rfl, rfl⟩
   gi_wp2_with fail
   have hb2 := Blk.new w3 TVAL #[U8 x.kind, .int .i64 x.n, .string x.s, .slice A x.l.length c, .slice A' x.o.length c']
   have hE0 : Ext w3 (w3.alloc (.cells #[U8 x.kind, .int .i64 x.n, .string x.s, .slice A x.l.length c, .slice A' x.o.length c'] TVAL)) := (Keep.refl _ _).alloc _
   have hws : w.heap.size + 1 < w3.heap.size := HB1.out.lt
   have hsz : (w3.alloc (.cells #[U8 x.kind, .int .i64 x.n, .string x.s, .slice A x.l.length c, .slice A' x.o.length c'] TVAL)).heap.size = w3.heap.size + 1 := by simp
   have HEW := hid (HE1.out.ext hE0)
   have HBW := hid (HB1.out.keep hE0 id)
   clear q0 q1 q2 q3 q4 r0 f0
   generalize w3.alloc (.cells #[U8 x.kind, .int .i64 x.n, .string x.s, .slice A x.l.length c, .slice A' x.o.length c'] TVAL) = W0 at *
   have HS0 := hid hsz
   have hst := within_stops 4 w3.heap.size (w.heap.size + 1) W0 _ x _ _ (by omega) hb2 (HL.out.ext EVal.ok HEW.out) (HO.out.ext EField.ok HEW.out) (fun f => f ∈ kids x) (fun f hf => hf) (fun k hk => by have := hk.2; omega) (by omega)
   clear hb2 hE0
   refine wpIn_rangeFunc_ownH rfl (by omega) (gf := 145) (lb := #[.pointer (some ⟨w3.heap.size, 0, none⟩)]) rfl trivial (enters_of Tryz.func145 (by kernel_rfl) rfl) hst kp_t kp_b (Below.refl _ _) (fun _ => rfl)
    (fun pre W => (∀ f ∈ pre.map Kid.kv, F.snd f = true) ∧ Blk W (w.heap.size + 1) 4 #[.bool false] ∧ Keep (· = w.heap.size + 1) W0 W)
    (fun c _ W => c = .ret ∧ xs = false ∧ Blk W (w.heap.size + 1) 4 #[.bool false] ∧ Keep (· = w.heap.size + 1) W0 W)
    (fun s X Y row hs hg hr => ⟨hs.1, hs.2.1.grown hg (fun e => by have := (hr _ e.symm).1; omega), hs.2.2.grown hg fun k e hk => by have := (hr k e).1; omega⟩)
    (fun c s X Y row hs hg hr => ⟨hs.1, hs.2.1, hs.2.2.1.grown hg (fun e => by have := (hr _ e.symm).1; omega), hs.2.2.2.grown hg fun k e hk => by have := (hr k e).1; omega⟩)
    ⟨by simp, HBW.out, Keep.refl _ _⟩
    (fun kid a' W => ∃ Bx, W0.heap.size ≤ Bx ∧ Blk W Bx TVAL #[U8 kid.v.kind, .int .i64 kid.v.n, .string kid.v.s, .slice kid.A1 kid.v.l.length kid.c1, .slice kid.A2 kid.v.o.length kid.c2] ∧ a' = { tmps := #[.agg #[U8 x.kind, .int .i64 x.n, .string x.s, .slice A x.l.length c, .slice A' x.o.length c'], .pointer (some ⟨w.heap.size, 0, none⟩), .pointer (some ⟨w.heap.size + 1, 0, none⟩), .string kid.key, .pointer (some ⟨Bx, 0, none⟩), .agg #[U8 x.kind, .int .i64 x.n, .string x.s, .slice A x.l.length c, .slice A' x.o.length c'], .bool true, .bool false, .bool false, .pointer (some ⟨w.heap.size, 4, none⟩), .slice A' x.o.length c', .bool true, .bool false, .bool false,
     .agg #[U8 x.kind, .int .i64 x.n, .string x.s, .slice A x.l.length c, .slice A' x.o.length c'], .func (.func 145) #[] #[.pointer (some ⟨w3.heap.size, 0, none⟩)], .string kid.key, .agg #[U8 kid.v.kind, .int .i64 kid.v.n, .string kid.v.s, .slice kid.A1 kid.v.l.length kid.c1, .slice kid.A2 kid.v.o.length kid.c2], undef, undef, undef, undef, undef, undef, undef, undef], defers := [] })
    (fun kid a' s X Y row hs hg hr => by
     obtain ⟨Bx, h1, h2, h3⟩ := hs
     refine ⟨Bx, h1, h2.grown hg (fun e => ?_), h3⟩
     obtain ⟨_, o, ho, hc⟩ := hr _ e.symm
     unfold Blk at h2
     rw [h2] at ho
     cases ho
     cases hc)
    ?assign ?body ?done ?stop
   case assign =>
    rintro l pre kid W K ⟨hp, hb, hk⟩ hK
    have hws := hk.size
    simp only [Kid.enc]
    gi_wp2
    exact hK _ _ ((KeepsOthers.alloc _ _).from _) (Keep.alloc (Keep.refl _ _) _) ⟨hp, hb.alloc _, hk.alloc _⟩ ⟨W.heap.size, hws, Blk.new _ _ _, rfl⟩
   case body =>
    rintro l pre kid a' W hlw _ ⟨hp, hb, hk⟩ ⟨Bx, hBx, hbx, rfl⟩ hlen
    have HB := hid hb
    have HK := hid hk
    have HP := hid hp
    have HBX := hid hbx
    have HKV := hid (VAt.keep kid.at_ hk fun k hk e => by have := hk.2; omega)
    have HOK := hid kid.ok
    have hkst := kids_str HST.out kid.ok
    have HKT := hid hkst
    have hWE : Ext w W := HEW.out.trans hk fun k hk e => by omega
    have HWE := hid hWE
    have hsnd : F.snd kid.kv = (Lib.validD kid.key.data.toList && kid.v.snd) := F.snd_eq kid.kv
    have HSND := hid hsnd
    have hbad : F.snd kid.kv = false → xs = false := fun h => by
     rw [HKS.out]
     have : (kids x).all F.snd = false := by
      rw [List.all_eq_false]
      exact ⟨kid.kv, kid.ok, by rw [h]; simp⟩
     rw [this]; rfl
    have HBAD := hid hbad
    clear hp hb hk hbx hkst hWE hsnd hbad hst
    gi_wp2_with fail
    refine ⟨trivial, (callsIn_round (HV.out kid.key (bigR HKT.out.1) _ HWE.out)).mono ?_⟩
    rintro e w4 ⟨rfl, hE4⟩
    have HE4 := hid hE4
    obtain ⟨p0, p1, p2, p3, p4⟩ := blk5 (HBX.out.keep hE4 id)
    have g0 := (HB.out.keep hE4 id).cell 0
    have gf0 := (HB.out.keep hE4 id).frozen 0
    clear hE4
    cases hvd : Lib.validD kid.key.data.toList with
    | false =>
     have HX := hid (HBAD.out (by rw [HSND.out, hvd]; rfl))
     clear hvd
     gi_wp2
     refine ⟨trivial, ?_⟩
     gi_wp2
     have hset : Keep (· = w.heap.size + 1) w4 (w4.setCell ⟨w.heap.size + 1, 0, none⟩ (.bool false)) := Keep.setAt (Keep.refl (· = w.heap.size + 1) w4) (fun _ => rfl) 0 _
     have hall : Keep (· = w.heap.size + 1) W (w4.setCell ⟨w.heap.size + 1, 0, none⟩ (.bool false)) := (HE4.out.mono fun _ _ h => h.elim).trans hset fun _ _ h => h
     exact ⟨keepsFrom_of hall (by have := HS0.out; omega), rfl, HX.out, (HB.out.keep HE4.out id).set_ 0 (.bool false), HK.out.trans hall fun _ _ h => h⟩
    | true =>
     have HVD := hid hvd
     clear hvd
     gi_wp2_with fail
     refine ⟨trivial, (callsIn_round (HIH.out kid.v (by have := kids_mem HOK.out; have h2 : kid.kv.v = kid.v := rfl; have := HSZ.out; simp only [F.v] at *; omega) HKT.out.2 _ _ w4 (HE00.out.ext (HWE.out.ext HE4.out)) (HKV.out.ext HE4.out))).mono ?_⟩
     rintro e w5 ⟨rfl, hE5⟩
     have HE5 := hid (HE4.out.ext hE5)
     have g0 := (HB.out.keep HE5.out id).cell 0
     have gf0 := (HB.out.keep HE5.out id).frozen 0
     clear hE5 p0 p1 p2 p3 p4
     cases hsv : kid.v.snd with
     | false =>
      have HX := hid (HBAD.out (by rw [HSND.out, hsv]; simp))
      clear hsv
      gi_wp2
      have hset : Keep (· = w.heap.size + 1) w5 (w5.setCell ⟨w.heap.size + 1, 0, none⟩ (.bool false)) := Keep.setAt (Keep.refl (· = w.heap.size + 1) w5) (fun _ => rfl) 0 _
      have hall : Keep (· = w.heap.size + 1) W (w5.setCell ⟨w.heap.size + 1, 0, none⟩ (.bool false)) := (HE5.out.mono fun _ _ h => h.elim).trans hset fun _ _ h => h
      exact ⟨keepsFrom_of hall (by have := HS0.out; omega), rfl, HX.out, (HB.out.keep HE5.out id).set_ 0 (.bool false), HK.out.trans hall fun _ _ h => h⟩
     | true =>
      have HX := hid (show F.snd kid.kv = true from by rw [HSND.out, hsv, HVD.out]; rfl)
      clear hsv
      gi_wp2
      have hall : Keep (· = w.heap.size + 1) W w5 := HE5.out.mono fun _ _ h => h.elim
      refine ⟨keepsFrom_of hall (by have := HS0.out; omega), hall.mono fun _ _ h => .inl h, fun f hf => ?_, HB.out.keep HE5.out id, HK.out.trans hall fun _ _ h => h⟩
      rw [List.map_append, List.mem_append] at hf
      rcases hf with hf | hf
      ·exact HP.out f hf
      ·rw [List.map_singleton, List.mem_singleton] at hf; rw [hf]; exact HX.out
   case done =>
    rintro D ys W hD hxs ⟨hp, hb, hk⟩ hK
    have hxt := hid (show xs = true from by
     rw [HKS.out]
     have : (kids x).all F.snd = true := List.all_eq_true.2 fun f hf => hp f (by rw [hxs]; exact hf)
     rw [this]; rfl)
    have r0 := hb.cell 0
    have f0 := hb.frozen 0
    have hset : Keep (· = w.heap.size + 1) W (W.setCell ⟨w.heap.size + 1, 0, none⟩ (.bool true)) := Keep.setAt (Keep.refl (· = w.heap.size + 1) W) (fun _ => rfl) 0 _
    have hK' := (KeepsOthers.setCell W ⟨w.heap.size + 1, 0, none⟩ (.bool true)).same D _ hK rfl
    have hbs := (hb.set_ 0 (.bool true)).grown (grownBy_putObj' (W.setCell ⟨w.heap.size + 1, 0, none⟩ (.bool true)) D (.deferred none)) (by simp; omega)
    have hcs : ((W.setCell ⟨w.heap.size + 1, 0, none⟩ (.bool true)).putObj D (.deferred none)).cell? ⟨w.heap.size + 1, 0, none⟩ = some (.bool true) := hbs.cell 0
    have HEND := hid (show Ext w ((W.setCell ⟨w.heap.size + 1, 0, none⟩ (.bool true)).putObj D (.deferred none)) from ((HEW.out.trans hk fun k hk e => by omega).trans hset fun k hk e => by omega).grown (grownBy_putObj' _ D (.deferred none)) fun k e hk2 => by cases e; have := HS0.out; omega)
    clear hp hxs hb hk hst hset hbs
    gi_wp2
    refine ⟨by simp, .inl ⟨_, _, rfl, run_takeDeferred hK', ?_⟩⟩
    refine ⟨.bool true, by simp [results, Tryz.results97, go_sem, hcs], by rw [hxt.out], HEND.out⟩
   case stop =>
    rintro D c2 pre W hD hpre ⟨rfl, hxf, hb, hk⟩ hK
    have hbs := hb.grown (grownBy_putObj' W D (.deferred none)) (by simp; omega)
    have hcs : (W.putObj D (.deferred none)).cell? ⟨w.heap.size + 1, 0, none⟩ = some (.bool false) := hbs.cell 0
    have HEND := hid (show Ext w (W.putObj D (.deferred none)) from (HEW.out.trans hk fun k hk e => by omega).grown (grownBy_putObj' _ D (.deferred none)) fun k e hk2 => by cases e; have := HS0.out; omega)
    have HXF := hid hxf
    clear hb hk hst hbs hxf
    gi_wp2
    refine ⟨by simp, .inl ⟨_, _, rfl, run_takeDeferred hK, ?_⟩⟩
    refine ⟨.bool false, by simp [results, Tryz.results97, go_sem, hcs], by rw [HXF.out], HEND.out⟩
end Go.Proofs.YtihaliffcobacaaGreatDoor
namespace Go.Proofs.YtihaliffcobacaaGreatDoor
open Go.RowKit
structure Wide (v : V) : Prop where
 size : v.size ≤ 1000000
 str : VStr BigR v
 weight : v.weight ≤ 4611686018427387904
def zV : V := .mk 0 0 ⟨#[]⟩ [] []
end Go.Proofs.YtihaliffcobacaaGreatDoor
namespace Go.Proofs.YtihaliffcobacaaGreatDoor
open Go.RowKit Go.Shelf
attribute [local go_sem] Oper.semAt_some
theorem kidsL_deeps : ∀ l : List V, F.deeps (kidsL l) = V.deeps l
 | [] => by simp [kidsL, F.deeps, V.deeps]
 | v :: vs => by
  have := kidsL_deeps vs
  unfold kidsL at this ⊢
  rw [List.map_cons, F.deeps, V.deeps, this, F.deep]
theorem kids_deeps (x : V) : F.deeps (kids x) = x.deep := by rw [kids, F.deeps_append, kidsL_deeps, V.deep_eq]
mutual
theorem V.deep_lt : ∀ v : V, v.deep < v.size
 | .mk k n s l o => by
  have h1 := V.deeps_le l
  have h2 := F.deeps_le o
  rw [V.deep, V.size]; omega
theorem V.deeps_le : ∀ l : List V, V.deeps l ≤ V.sizes l
 | [] => by simp [V.deeps]
 | v :: vs => by
  have h1 := V.deep_lt v
  have h2 := V.deeps_le vs
  rw [V.deeps, V.sizes]; omega
theorem F.deep_le : ∀ f : F, f.deep ≤ f.size
 | .mk k v => by
  have h1 := V.deep_lt v
  rw [F.deep, F.size]; omega
theorem F.deeps_le : ∀ l : List F, F.deeps l ≤ F.sizes l
 | [] => by simp [F.deeps]
 | f :: fs => by
  have h1 := F.deep_le f
  have h2 := F.deeps_le fs
  rw [F.deeps, F.sizes]; omega
end
set_option maxRecDepth 100000 in
theorem deep_any : ∀ (m : Nat) (x : V), x.size ≤ m → m ≤ 1000000 → ∀ (u : Value) (S : BS) (w : World), VAt w S u x →
  Calls Tryz.prog 98 #[u] w fun e w' => e = .returned (.int .i64 x.deep) ∧ Ext w w' := by
 intro m
 induction m with
 | zero => intro x h _; have := x.size_pos; omega
 | succ m ih =>
 intro x hsz hmm u S w hu
 obtain ⟨lv, ov, rfl, hl, ho⟩ := hu.cut
 obtain ⟨A, c, rfl, hlc, hcm⟩ := hl.shape
 obtain ⟨A', c', rfl, hlc', hcm'⟩ := ho.shape
 have HIH := hid ih
 have HL := hid hl
 have HO := hid ho
 have HSZ := hid hsz
 have HMM := hid (show m ≤ 1000000 by omega)
 clear ih hu hl ho hsz hmm
 refine callsOf Tryz.func98 rfl ?_
 simp only [Tryz.ntmps98, List.size_toArray, List.length_cons, List.length_nil, Nat.reduceAdd, Nat.reduceSub, Array.replicate_succ, Array.replicate_zero, List.push_toArray, List.append_toArray, List.nil_append, List.cons_append]
 gi_wp2_with fail
 refine ⟨trivial, (callsIn_wide.2 (within_ok _ _ _ _ _ _)).mono ?_⟩
 rintro e w' ⟨rfl, rfl⟩
 gi_wp2_with fail
 obtain ⟨W0, hW0⟩ : ∃ W0, ((w.alloc (.cells #[U8 x.kind, .int .i64 x.n, .string x.s, .slice A x.l.length c, .slice A' x.o.length c'] TVAL)).alloc (.cells #[.int .i64 0] 3)).alloc (.cells #[U8 x.kind, .int .i64 x.n, .string x.s, .slice A x.l.length c, .slice A' x.o.length c'] TVAL) = W0 := ⟨_, rfl⟩
 have hE0 : Ext w W0 := by rw [← hW0]; exact (((Keep.refl _ _).alloc _).alloc _).alloc _
 have hsz : W0.heap.size = w.heap.size + 3 := by rw [← hW0]; simp
 have hb1 : Blk W0 (w.heap.size + 1) 3 #[.int .i64 0] := by
  have := (Blk.new (w.alloc (.cells #[U8 x.kind, .int .i64 x.n, .string x.s, .slice A x.l.length c, .slice A' x.o.length c'] TVAL)) 3 #[.int .i64 0]).alloc (.cells #[U8 x.kind, .int .i64 x.n, .string x.s, .slice A x.l.length c, .slice A' x.o.length c'] TVAL)
  rw [World.size_alloc] at this
  rw [← hW0]; exact this
 have hb2 : Blk W0 (w.heap.size + 1 + 1) TVAL #[U8 x.kind, .int .i64 x.n, .string x.s, .slice A x.l.length c, .slice A' x.o.length c'] := by
  have := Blk.new ((w.alloc (.cells #[U8 x.kind, .int .i64 x.n, .string x.s, .slice A x.l.length c, .slice A' x.o.length c'] TVAL)).alloc (.cells #[.int .i64 0] 3)) TVAL #[U8 x.kind, .int .i64 x.n, .string x.s, .slice A x.l.length c, .slice A' x.o.length c']
  rw [World.size_alloc, World.size_alloc] at this
  rw [← hW0]; exact this
 simp only [hW0]
 have HE0 := hid hE0
 have HS0 := hid hsz
 have hst := within_stops 4 (w.heap.size + 1 + 1) (w.heap.size + 1) W0 _ x _ _ (by omega) hb2 (HL.out.ext EVal.ok hE0) (HO.out.ext EField.ok hE0) (fun f => f.v.size ≤ m) (fun f hf => by have := kids_mem hf; have := HSZ.out; omega) (fun k hk => by have := hk.2; omega) (by omega)
 clear hW0 hE0 hb2
 refine wpIn_rangeFunc_ownH rfl (by omega) (gf := 145) (lb := #[.pointer (some ⟨w.heap.size + 1 + 1, 0, none⟩)]) rfl trivial (enters_of Tryz.func145 (by kernel_rfl) rfl) hst kp_t kp_b (Below.refl _ _) (fun _ => rfl)
  (fun pre W => Blk W (w.heap.size + 1) 3 #[.int .i64 (F.deeps (pre.map Kid.kv))] ∧ Keep (· = w.heap.size + 1) W0 W)
  (fun _ _ _ => False)
  (fun s X Y row hs hg hr => ⟨hs.1.grown hg (fun e => by have := (hr _ e.symm).1; omega), hs.2.grown hg fun k e hk => by have := (hr k e).1; omega⟩)
  (fun _ _ _ _ _ hs _ _ => hs.elim)
  ⟨by simpa [F.deeps] using hb1, Keep.refl _ _⟩
  (fun kid a' W => ∃ Bx, W0.heap.size ≤ Bx ∧ Blk W Bx TVAL #[U8 kid.v.kind, .int .i64 kid.v.n, .string kid.v.s, .slice kid.A1 kid.v.l.length kid.c1, .slice kid.A2 kid.v.o.length kid.c2] ∧ a' = { tmps := #[.agg #[U8 x.kind, .int .i64 x.n, .string x.s, .slice A x.l.length c, .slice A' x.o.length c'], .pointer (some ⟨w.heap.size, 0, none⟩), .int .i64 0, .pointer (some ⟨w.heap.size + 1, 0, none⟩), undef, .pointer (some ⟨Bx, 0, none⟩),
   .agg #[U8 x.kind, .int .i64 x.n, .string x.s, .slice A x.l.length c, .slice A' x.o.length c'], .func (.func 145) #[] #[.pointer (some ⟨w.heap.size + 1 + 1, 0, none⟩)], .string kid.key, .agg #[U8 kid.v.kind, .int .i64 kid.v.n, .string kid.v.s, .slice kid.A1 kid.v.l.length kid.c1, .slice kid.A2 kid.v.o.length kid.c2], undef, undef, undef, undef, undef, undef], defers := [] })
  (fun kid a' s X Y row hs hg hr => by
   obtain ⟨Bx, h1, h2, h3⟩ := hs
   refine ⟨Bx, h1, h2.grown hg (fun e => ?_), h3⟩
   obtain ⟨_, o, ho, hc⟩ := hr _ e.symm
   unfold Blk at h2
   rw [h2] at ho
   cases ho
   cases hc)
  ?assign ?body ?done ?stop
 case assign =>
  rintro l pre kid W K ⟨hb, hk⟩ hK
  have hws := hk.size
  simp only [Kid.enc]
  gi_wp2
  exact hK _ _ ((KeepsOthers.alloc _ _).from _) (Keep.alloc (Keep.refl _ _) _) ⟨hb.alloc _, hk.alloc _⟩ ⟨W.heap.size, hws, Blk.new _ _ _, rfl⟩
 case body =>
  rintro l pre kid a' W hlw _ ⟨hb, hk⟩ ⟨Bx, hBx, hbx, rfl⟩ hlen
  have q0 := hb.cell 0
  have f0 := hb.frozen 0
  obtain ⟨p0, p1, p2, p3, p4⟩ := blk5 hbx
  have q0 : W.cell? ⟨w.heap.size + 1, 0, none⟩ = some (.int .i64 (F.deeps (pre.map Kid.kv))) := q0
  have HB := hid hb
  have HK := hid hk
  have HV := hid (VAt.keep kid.at_ hk fun k hk e => by have := hk.2; omega)
  have HKS := hid kid.ok
  clear hb hk hbx hst
  have hdl := V.deep_lt kid.v
  have hdn : (kid.v.deep : Int) ≤ 1000000 := by have h1 : kid.v.size ≤ m := HKS.out; have := HMM.out; omega
  have hdn2 : F.deeps ((pre ++ [kid]).map Kid.kv) = max (F.deeps (pre.map Kid.kv)) (kid.v.deep + 1) := by
   rw [List.map_append, F.deeps_append, List.map_singleton, F.deeps_one, F.deep_eq]; rfl
  gi_wp2_with fail
  refine wpIn_region_parts [] [0, 1, 2, 3] [4, 5] (specOf [(2, fun v _ => v = .int .i64 kid.v.deep)]) (fun w' => Ext W w') (stable_cons (fun v w w' h he => h) stable_nil) (stableC_ext _) (by kernel_rfl) (by kernel_rfl) (by kernel_rfl) (fun ⟨_, _, h⟩ => h) (Keep.drew (Keep.refl _ _)) ?_
  refine pure_nil ?_
  iterate 2
   (try simp only [Act.put, sqa, sqb, sqc])
   refine growP_run rfl rfl rfl ?_
   apply Exists.intro
   refine ⟨fun w' hC hK => ?_, ?_⟩
   ·have q0 := sqw hC q0
    have p0 := sqw hC p0
    have p1 := sqw hC p1
    have p2 := sqw hC p2
    have p3 := sqw hC p3
    have p4 := sqw hC p4
    go_simp
    rfl
  (try simp only [Act.put, sqa, sqb, sqc])
  refine growP_eff rfl rfl rfl (fun w' hC hK => ?_) (fun v4 hv4 => ?_)
  ·unfold growAt
   go_simp
   refine grow_call ((HIH.out kid.v HKS.out HMM.out _ _ w' (HV.out.ext hC)).mono ?_)
   rintro e w'' ⟨rfl, h1⟩
   exact ⟨_, rfl, h1, rfl⟩
  obtain ⟨_, _, rfl⟩ := hv4.head
  iterate 1
   (try simp only [Act.put, sqa, sqb, sqc])
   refine growP_run rfl rfl rfl ?_
   apply Exists.intro
   refine ⟨fun w' hC hK => ?_, ?_⟩
   ·go_simp
    rfl
  refine growP_nil fun w5 hC _ => ?_
  have hb5 := HB.out.keep hC id
  have q5 : w5.cell? ⟨w.heap.size + 1, 0, none⟩ = some (.int .i64 (F.deeps (pre.map Kid.kv))) := hb5.cell 0
  have f5 := hb5.frozen 0
  have hkC := hid (show Ext W w5 from hC)
  have HB5 := hid hb5
  clear hC hv4 q0 f0 p0 p1 p2 p3 p4 hb5
  obtain ⟨dn, hdn3⟩ : ∃ dn, F.deeps ((pre ++ [kid]).map Kid.kv) = dn := ⟨_, rfl⟩
  rw [hdn3] at hdn2
  have HDE := hid hdn3
  have HDN := hid hdn2
  clear hdn2 hdn3
  generalize F.deeps (pre.map Kid.kv) = dp at *
  change wpList _ _ _ (_ :: _ :: []) _ _
  (try simp only [Act.put, sqa, sqb, sqc])
  by_cases hlt : (dp : Int) < kid.v.deep + 1
  ·go_wp2
   refine NoPanic.normal ?_
   have hd1 : (kid.v.deep : Int) + 1 = (dn : Nat) := by have := HDN.out; omega
   rw [hd1]
   try rw [Int.max_eq_right (show (dp : Int) ≤ (dn : Int) by omega)]
   have hset : Keep (· = w.heap.size + 1) w5 (w5.setCell ⟨w.heap.size + 1, 0, none⟩ (.int .i64 dn)) := Keep.setAt (Keep.refl (· = w.heap.size + 1) w5) (fun _ => rfl) 0 _
   have hall : Keep (· = w.heap.size + 1) W (w5.setCell ⟨w.heap.size + 1, 0, none⟩ (.int .i64 dn)) := (hkC.out.mono fun _ _ h => h.elim).trans hset fun _ _ h => h
   refine ⟨keepsFrom_of hall (by have := HS0.out; omega), hall.mono fun _ _ h => .inl h, ?_, HK.out.trans hall fun _ _ h => h⟩
   rw [HDE.out]
   exact HB5.out.set_ 0 (.int .i64 dn)
  ·go_wp2
   refine NoPanic.normal ?_
   have hd1 : dp = dn := by have := HDN.out; omega
   rw [hd1]
   try rw [Int.max_eq_left (show (kid.v.deep : Int) + 1 ≤ (dn : Int) by omega)]
   have hset : Keep (· = w.heap.size + 1) w5 (w5.setCell ⟨w.heap.size + 1, 0, none⟩ (.int .i64 dn)) := Keep.setAt (Keep.refl (· = w.heap.size + 1) w5) (fun _ => rfl) 0 _
   have hall : Keep (· = w.heap.size + 1) W (w5.setCell ⟨w.heap.size + 1, 0, none⟩ (.int .i64 dn)) := (hkC.out.mono fun _ _ h => h.elim).trans hset fun _ _ h => h
   refine ⟨keepsFrom_of hall (by have := HS0.out; omega), hall.mono fun _ _ h => .inl h, ?_, HK.out.trans hall fun _ _ h => h⟩
   rw [HDE.out]
   exact HB5.out.set_ 0 (.int .i64 dn)
 case done =>
  rintro D xs W hD hxs ⟨hb, hk⟩ hK
  have q0 : W.cell? ⟨w.heap.size + 1, 0, none⟩ = some (.int .i64 (F.deeps (xs.map Kid.kv))) := hb.cell 0
  have HFIN := hid (show F.deeps (xs.map Kid.kv) = x.deep from by rw [hxs]; exact kids_deeps x)
  have HEND := hid (show Ext w (W.putObj D (.deferred none)) from (Keep.trans HE0.out hk fun k hk e => by omega).grown (grownBy_putObj' W D (.deferred none)) fun k e hk2 => by cases e; omega)
  clear hxs hb hk hst
  gi_wp2
  refine ⟨by simp, .inl ⟨_, _, rfl, run_takeDeferred hK, ?_⟩⟩
  refine ⟨_, results_tmp rfl _ _ _, ?_, HEND.out⟩
  show Ending.returned (.int .i64 (F.deeps (xs.map Kid.kv))) = _
  rw [HFIN.out]
 case stop =>
  rintro D c pre W _ _ h _
  exact h.elim
end Go.Proofs.YtihaliffcobacaaGreatDoor
namespace Go.Proofs.YtihaliffcobacaaGreatDoor
open Go.RowKit
theorem Wide.wrap {v : V} (h : Wide v) : wrap64 v.weight = (v.weight : Int) := by have := h.weight; unfold wrap64; omega
theorem plight_ok (w0 : World) (hva : ValAny w0) (v : V) (hw : Wide v) (u : Value) (S : BS) (w : World) (h0 : Ext w0 w) (hu : VAt w S u v) :
  Calls Tryz.prog 79 #[u] w fun e w' => e = .returned (.bool (lightB v)) ∧ Ext w w' := by
 have HVA := hid hva
 have HWI := hid hw
 have H0 := hid h0
 have hdl : (v.deep : Int) ≤ 1000000 := by have := V.deep_lt v; have := hw.size; omega
 obtain ⟨l1, o1, rfl, h1, h2⟩ := hu
 obtain ⟨A1, c1, rfl, _⟩ := h1.shape
 obtain ⟨A2, c2, rfl, _⟩ := h2.shape
 have hE : Ext w (w.alloc (.cells #[U8 v.kind, .int .i64 v.n, .string v.s, .slice A1 v.l.length c1, .slice A2 v.o.length c2] TVAL)) := (Keep.refl _ _).alloc _
 have HE := hid hE
 have HB := hid (Blk.new w TVAL #[U8 v.kind, .int .i64 v.n, .string v.s, .slice A1 v.l.length c1, .slice A2 v.o.length c2])
 have HV := hid (show VAt (w.alloc (.cells #[U8 v.kind, .int .i64 v.n, .string v.s, .slice A1 v.l.length c1, .slice A2 v.o.length c2] TVAL)) S (.agg #[U8 v.kind, .int .i64 v.n, .string v.s, .slice A1 v.l.length c1, .slice A2 v.o.length c2]) v from ⟨_, _, rfl, h1.ext EVal.ok hE, h2.ext EField.ok hE⟩)
 have HLB := hid (show lightB v = (v.snd && (decide ((v.deep : Int) ≤ 16) && decide (wrap64 v.weight ≤ 20000))) from by
  unfold lightB; rw [hw.wrap]
  congr 2 <;> exact decide_eq_decide.2 (by omega))
 rw [HLB.out]
 clear hva hw h0 h1 h2 hE HLB
 go_enter Tryz.func79, Tryz.ntmps79
 go_wp2_with fail
 generalize (w.alloc (.cells #[U8 v.kind, .int .i64 v.n, .string v.s, .slice A1 v.l.length c1, .slice A2 v.o.length c2] TVAL)) = W0 at *
 refine (sound_any w0 HVA.out 1000000 v HWI.out.size HWI.out.str _ S W0 (H0.out.ext HE.out) HV.out).mono ?_
 rintro e w1 ⟨rfl, h1⟩
 have HV1 := hid (HV.out.ext h1)
 have HE1 := hid (HE.out.ext h1)
 have HB1 := hid (HB.out.keep h1 id)
 clear h1
 obtain ⟨q0, q1, q2, q3, q4⟩ := blk5 HB1.out
 obtain ⟨sb, hsb⟩ : ∃ sb, v.snd = sb := ⟨_, rfl⟩
 have HSB := hid hsb
 rw [hsb]
 clear hsb
 cases sb with
 | false =>
  go_wp2
  go_ret
  exact ⟨by rw [HSB.out]; rfl, HE1.out⟩
 | true =>
  go_wp2_with fail
  refine (deep_any 1000000 v HWI.out.size (Nat.le_refl _) _ S w1 HV1.out).mono ?_
  rintro e w2 ⟨rfl, h2⟩
  have HV2 := hid (HV1.out.ext h2)
  have HE2 := hid (HE1.out.ext h2)
  have HB2 := hid (HB1.out.keep h2 id)
  clear h2 q0 q1 q2 q3 q4
  obtain ⟨q0, q1, q2, q3, q4⟩ := blk5 HB2.out
  by_cases hd : (v.deep : Int) ≤ 16
  ·go_wp2_with fail
   refine (weight_any 1000000 v HWI.out.size _ S w2 HV2.out).mono ?_
   rintro e w3 ⟨rfl, h3⟩
   have HE3 := hid (HE2.out.ext h3)
   have hdt : decide ((v.deep : Int) ≤ 16) = true := by simp [hd]
   clear h3 q0 q1 q2 q3 q4
   go_wp2
   go_ret
   exact ⟨by rw [HSB.out, hdt]; simp, HE3.out⟩
  ·have hdt : decide ((v.deep : Int) ≤ 16) = false := by simp; omega
   go_wp2
   go_ret
   exact ⟨by rw [HSB.out, hdt]; simp, HE2.out⟩
def doneC (bs : List UInt8) : Int := if bs.length > 60000 then 3 else 0
def doneB (bs : List UInt8) : List UInt8 := if doneC bs = 0 then bs else []
theorem pdone_ok (b : Nat) (X : Value) (bs : List UInt8) (base : Nat) (w : World) (hb : Blk w b TWP #[X]) (hown : Own EU8 w base TU8 (fun _ => False) X bs) (hl : bs.length ≤ 260000) :
  Calls Tryz.prog 81 #[.pointer (some ⟨b, 0, none⟩)] w fun e w' => ∃ u, e = .returned (.tuple #[u, .int .u16 (doneC bs)]) ∧ Own EU8 w' base TU8 (fun _ => False) u (doneB bs) ∧ w' = w := by
 have HO := hid hown
 obtain ⟨A, c, rfl, hlc, hcm⟩ := hown.shape
 have x0 := hb.cell 0
 simp only [List.getElem?_toArray, List.getElem?_cons_zero] at x0
 obtain ⟨n, hn⟩ : ∃ n, bs.length = n := ⟨_, rfl⟩
 have HN := hid hn
 rw [hn] at x0 HO hl
 clear hown hn hlc hcm hb
 go_enter Tryz.func81, Tryz.ntmps81
 by_cases hg : (60000 : Int) < n
 ·have hC : doneC bs = 3 := by unfold doneC; rw [if_pos (by have := HN.out; omega)]
  have hB : doneB bs = [] := by unfold doneB; rw [hC]; rfl
  rw [hC, hB]
  clear hC hB
  go_wp2
  go_ret2
  exact ⟨_, rfl, Own.nil _ _ _ _, rfl⟩
 ·have hC : doneC bs = 0 := by unfold doneC; rw [if_neg (by have := HN.out; omega)]
  have hB : doneB bs = bs := by unfold doneB; rw [hC]; rfl
  rw [hC, hB]
  clear hC hB
  go_wp2
  go_ret2
  exact ⟨_, rfl, HO.out, rfl⟩
def PvalIs (W1 : World) (v : V) (e : Ending) (w' : World) : Prop := ∃ u, e = .returned (.tuple #[u, .int .u16 (valC v)]) ∧ Own EU8 w' W1.heap.size TU8 (fun _ => False) u (valB v) ∧ Ext W1 w'
set_option maxRecDepth 100000 in
theorem pval10_ok (w0 : World) (hva : ValAny w0) (v : V) (hw : Wide v) (u : Value) (S : BS) (w : World) (h0 : Ext w0 w) (hu : VAt w S u v) :
  Calls Tryz.prog 56 #[u] w (PvalIs w v) := by
 have HVA := hid hva
 have HWI := hid hw
 have H0 := hid h0
 have hu := hu.more (S' := fun k => k < w.heap.size) fun k h _ => h
 obtain ⟨l1, o1, rfl, h1, h2⟩ := hu
 obtain ⟨A1, c1, rfl, _⟩ := h1.shape
 obtain ⟨A2, c2, rfl, _⟩ := h2.shape
 have hE : Ext w (w.alloc (.cells #[U8 v.kind, .int .i64 v.n, .string v.s, .slice A1 v.l.length c1, .slice A2 v.o.length c2] TVAL)) := (Keep.refl _ _).alloc _
 have HE := hid hE
 have HSZ := hid (show (w.alloc (.cells #[U8 v.kind, .int .i64 v.n, .string v.s, .slice A1 v.l.length c1, .slice A2 v.o.length c2] TVAL)).heap.size = w.heap.size + 1 by simp)
 have HB := hid (Blk.new w TVAL #[U8 v.kind, .int .i64 v.n, .string v.s, .slice A1 v.l.length c1, .slice A2 v.o.length c2])
 have HV := hid (show VAt (w.alloc (.cells #[U8 v.kind, .int .i64 v.n, .string v.s, .slice A1 v.l.length c1, .slice A2 v.o.length c2] TVAL)) (fun k => k < w.heap.size) (.agg #[U8 v.kind, .int .i64 v.n, .string v.s, .slice A1 v.l.length c1, .slice A2 v.o.length c2]) v from ⟨_, _, rfl, h1.ext EVal.ok hE, h2.ext EField.ok hE⟩)
 clear hva hw h0 h1 h2 hE
 go_enter Tryz.func56, Tryz.ntmps56
 go_wp2_with fail
 generalize (w.alloc (.cells #[U8 v.kind, .int .i64 v.n, .string v.s, .slice A1 v.l.length c1, .slice A2 v.o.length c2] TVAL)) = W0 at *
 refine (plight_ok w0 HVA.out v HWI.out _ _ W0 (H0.out.ext HE.out) HV.out).mono ?_
 rintro e w1 ⟨rfl, h1⟩
 have HV1 := hid (HV.out.ext h1)
 have HE1 := hid (HE.out.ext h1)
 have HB1 := hid (HB.out.keep h1 id)
 have HSZ1 := hid (show w.heap.size < w1.heap.size from by have := h1.size; have := HSZ.out; omega)
 clear h1
 obtain ⟨lb, hlb⟩ : ∃ lb, lightB v = lb := ⟨_, rfl⟩
 have HLB := hid hlb
 rw [hlb]
 clear hlb
 cases lb with
 | false =>
  have hC : valC v = 1 := by unfold valC; rw [HLB.out]; rfl
  have hB : valB v = [] := by unfold valB; rw [hC]; rfl
  have HF := hid (show PvalIs w v (.returned (.tuple #[.slice none 0 0, .int .u16 1])) w1 from ⟨_, by rw [hC], by rw [hB]; exact Own.nil _ _ _ _, HE1.out⟩)
  clear hC hB
  go_wp2
  go_ret2
  exact HF.out
 | true =>
  obtain ⟨q0, q1, q2, q3, q4⟩ := blk5 HB1.out
  have HLEN := hid (show (encV v).length ≤ 260000 from by have := light_weight HLB.out; have := encV_le13 v; omega)
  have hE2 : Ext w1 (w1.alloc (.cells #[.slice none 0 0] TWP)) := (Keep.refl _ _).alloc _
  have HV2 := hid (HV1.out.ext hE2)
  have HE2 := hid (HE1.out.ext hE2)
  have HZ2 := hid (show (w1.alloc (.cells #[.slice none 0 0] TWP)).heap.size = w1.heap.size + 1 by simp)
  have HWR := hid (show WrAt TWP (w1.alloc (.cells #[.slice none 0 0] TWP)) (w1.alloc (.cells #[.slice none 0 0] TWP)) w1.heap.size none [] from ⟨_, Blk.new _ _ _, Own.nil _ _ _ _, rfl, by simp, Keep.refl _ _⟩)
  have HB2 := hid (HB1.out.keep hE2 id)
  clear hE2 q0 q1 q2 q3 q4
  obtain ⟨q0, q1, q2, q3, q4⟩ := blk5 HB2.out
  go_wp2_with fail
  generalize (w1.alloc (.cells #[.slice none 0 0] TWP)) = w2 at *
  refine (pvalue_any 1000000 v HWI.out.size w2 w2 w1.heap.size none [] _ _ HWR.out HV2.out (fun k hk => by have := HSZ1.out; have := HZ2.out; omega) (by have := HLEN.out; simp; omega)).mono ?_
  rintro e w3 ⟨rfl, o3, ⟨X, hb, hown, _, hlt, hk⟩, _⟩
  rw [List.nil_append] at hown
  have HK := hid (show Ext w w3 from HE2.out.trans hk fun k h1 h2 => by have := HSZ1.out; omega)
  have HO := hid (show Own EU8 w3 w.heap.size TU8 (fun _ => False) X (encV v) from hown.less (by have := HSZ1.out; have := HZ2.out; omega))
  have HBL := hid hb
  clear hb hown hk hlt q0 q1 q2 q3 q4
  go_wp2_with fail
  refine (pdone_ok _ X (encV v) _ w3 HBL.out HO.out HLEN.out).mono ?_
  rintro e w4 ⟨u, rfl, hu, rfl⟩
  have hC : doneC (encV v) = valC v := by unfold valC doneC; rw [HLB.out]; rfl
  have hB : doneB (encV v) = valB v := by unfold valB doneB; rw [hC]
  rw [hC]
  rw [hB] at hu
  have HF := hid (show PvalIs w v (.returned (.tuple #[u, .int .u16 (valC v)])) w4 from ⟨_, rfl, hu, HK.out⟩)
  clear hC hB hu
  go_wp2
  go_ret2
  exact HF.out
end Go.Proofs.YtihaliffcobacaaGreatDoor
namespace Go.Proofs.YtihaliffcobacaaGreatDoor
def crcBit (x : BitVec 32) : BitVec 32 := (x >>> 1) ^^^ (0xedb88320#32 * (x &&& 1#32))
def crcBits : Nat → BitVec 32 → BitVec 32
 | 0, x => x
 | n + 1, x => crcBit (crcBits n x)
theorem and_one (x : BitVec 32) : x &&& 1#32 = if x[0] then 1#32 else 0#32 := by
 apply BitVec.eq_of_getLsbD_eq
 intro i hi
 cases h : x[0] <;> simp [BitVec.getLsbD_one, BitVec.getLsbD_and]
 ·intro h1 h0; subst h0; rw [BitVec.getLsbD_eq_getElem (by omega)] at h1; rw [h] at h1; cases h1
 ·intro h0; subst h0; rw [BitVec.getLsbD_eq_getElem (by omega)]; exact h
theorem crcBit_eq (x : BitVec 32) : crcBit x = (x >>> 1) ^^^ (if x[0] then 0xedb88320#32 else 0#32) := by
 unfold crcBit
 rw [and_one]
 cases h : x[0] <;> simp
theorem crcBit_xor (x y : BitVec 32) : crcBit (x ^^^ y) = crcBit x ^^^ crcBit y := by
 simp only [crcBit_eq, BitVec.getElem_xor, BitVec.ushiftRight_xor_distrib]
 have e : ∀ a b c d : BitVec 32, a ^^^ b ^^^ (c ^^^ d) = (a ^^^ c) ^^^ (b ^^^ d) := by intros; ac_rfl
 rw [e]
 congr 1
 cases hx : x[0] <;> cases hy : y[0] <;> simp
theorem crcBits_xor (n : Nat) (x y : BitVec 32) : crcBits n (x ^^^ y) = crcBits n x ^^^ crcBits n y := by
 induction n with
 | zero => rfl
 | succ n ih => simp only [crcBits, ih, crcBit_xor]
theorem crcBit_even (x : BitVec 32) (h : x[0] = false) : crcBit x = x >>> 1 := by
 rw [crcBit_eq, h]; simp
theorem crcBits_low (n : Nat) (x : BitVec 32) (h : ∀ i, i < n → x.getLsbD i = false) : crcBits n x = x >>> n := by
 induction n with
 | zero => simp [crcBits]
 | succ n ih =>
  simp only [crcBits]
  rw [ih (fun i hi => h i (by omega)), crcBit_even]
  ·rw [← BitVec.shiftRight_add]
  ·simpa using h n (by omega)
def crcTab (i : Nat) : BitVec 32 := crcBits 8 (BitVec.ofNat 32 i)
def crcStep (c : BitVec 32) (b : BitVec 8) : BitVec 32 := crcBits 8 (c ^^^ b.zeroExtend 32)
theorem crcStep_eq (c : BitVec 32) (b : BitVec 8) : crcTab (c.setWidth 8 ^^^ b).toNat ^^^ (c >>> 8) = crcStep c b := by
 unfold crcTab crcStep
 have e : c ^^^ b.zeroExtend 32 = BitVec.ofNat 32 (c.setWidth 8 ^^^ b).toNat ^^^ ((c >>> 8) <<< 8) := by
  apply BitVec.eq_of_getLsbD_eq
  intro i hi
  have e2 : (BitVec.ofNat 32 (c.setWidth 8 ^^^ b).toNat).getLsbD i = (c.setWidth 8 ^^^ b).getLsbD i := by
   simp only [BitVec.getLsbD_ofNat, hi, decide_true, Bool.true_and]; rfl
  simp only [BitVec.getLsbD_xor, e2, BitVec.getLsbD_setWidth, BitVec.getLsbD_shiftLeft, BitVec.getLsbD_ushiftRight, BitVec.zeroExtend]
  by_cases h8 : i < 8
  ·simp [h8, hi]
  ·simp only [h8, hi]; rw [show 8 + (i - 8) = i from by omega]; simp; exact Bool.xor_comm _ _
 rw [e, crcBits_xor, crcBits_low 8 ((c >>> 8) <<< 8)]
 ·congr 1
  apply BitVec.eq_of_getLsbD_eq
  intro i hi
  simp only [BitVec.getLsbD_shiftLeft, BitVec.getLsbD_ushiftRight]
  by_cases h8 : i < 24
  ·rw [show 8 + (8 + i - 8) = 8 + i from by omega]; simp; intros; omega
  ·simp; rw [BitVec.getLsbD_of_ge _ _ (by omega)]; simp
 ·intro i hi; simp [hi]
def crcAll (c : BitVec 32) (l : List (BitVec 8)) : BitVec 32 := l.foldl crcStep c
def crcOf (l : List UInt8) : BitVec 32 := crcAll 0xffffffff#32 (l.map (·.toBitVec))
def sumOf (l : List UInt8) : BitVec 32 := ~~~ crcOf l
theorem crcOf_snoc (l : List UInt8) (x : UInt8) : crcOf (l ++ [x]) = crcStep (crcOf l) x.toBitVec := by
 simp [crcOf, crcAll, List.foldl_append]
end Go.Proofs.YtihaliffcobacaaGreatDoor
namespace Go.Proofs.YtihaliffcobacaaGreatDoor
end Go.Proofs.YtihaliffcobacaaGreatDoor
