/- RDJ: laid together. -/
import Derived.Test.YtihaliffcobacaaGreatDoorSbB29
set_option linter.unusedSimpArgs false
set_option linter.unusedVariables false
set_option maxHeartbeats 25600000
set_option maxRecDepth 20000
namespace Go.Proofs.YtihaliffcobacaaGreatDoor
open Go.RowKit
theorem app_end {w wv w3 : World} {B : BS} {r g k n c : Nat} {L : List DC} {s : DSt} {dead : Bool} {bv : Value} {y : List UInt8} {T : TypeId} (hv : RdAt wv (moreB B w wv) r L s (.slice (some ⟨g, 0, none⟩) n c) dead) (hkw : Keep B w wv) (he : Ext wv w3) (hk : k < L.length)
  (hb : Own EU8 w3 wv.heap.size T (fun _ => False) bv y) {z : DC} (hz : ({ L[k] with b := y } : DC) = z) :
  RdIs (w3.setCell ⟨g, k * 3 + 1, none⟩ bv) (moreB B w (w3.setCell ⟨g, k * 3 + 1, none⟩ bv)) r (L.set k z) s ∧ Keep B w (w3.setCell ⟨g, k * 3 + 1, none⟩ bv) := by
 have hg := hv.ownF g rfl
 have hgl := (hv.row.lt (g := g) rfl).2
 have hrl := hv.blk.lt
 have hks : Keep (· = g) w3 (w3.setCell ⟨g, k * 3 + 1, none⟩ bv) := (Keep.refl _ _).set1 _ _
 have hs1 := he.size
 have hs2 := hks.size
 have hs3 := hkw.size
 have hv3 := (hv.keep he fun _ _ x => x).more (B' := moreB B w (w3.setCell ⟨g, k * 3 + 1, none⟩ bv)) fun q hq h => h.elim .inl fun h => .inr ⟨h.1, by omega⟩
 have hset := own_setB hv3.row hk (fun h => h.2.2 rfl) (hb.sl EU8.ok) (fun h => h.elim id fun e => by have := (hb.lt e).1; omega)
 rw [hz] at hset
 refine ⟨⟨_, dead, hv3.setRow hks (hset.more EFl.ok fun q hq h => h.elim id fun h => h.elim False.elim fun e => ?_)⟩, (hkw.ext he).trans hks fun q hq e => ?_⟩
 ·have := hb.lt e
  refine ⟨.inr ⟨by omega, by omega⟩, by omega, fun e2 => ?_⟩
  have e2 : some g = some q := e2
  injection e2 with e2
  omega
 ·subst e
  exact hg.1.elim id fun h => by omega
theorem row_end {w wx w3 : World} {B : BS} {r : Nat} {L0 L : List DC} {s : DSt} {dead : Bool} {F v : Value} (hv : RdAt wx B r L0 s F dead) (hkw : Keep B w wx) (he : Ext wx w3) (hb : Own EFl w3 wx.heap.size TRF (fun q => (B q ∧ q ≠ r) ∧ q < wx.heap.size) v L) :
  RdAt (w3.setCell ⟨r, 1, none⟩ v) (moreB B w (w3.setCell ⟨r, 1, none⟩ v)) r L s v dead ∧ Keep B w (w3.setCell ⟨r, 1, none⟩ v) := by
 have hks : Keep (· = r) w3 (w3.setCell ⟨r, 1, none⟩ v) := (Keep.refl _ _).set1 _ _
 have hbl := (hv.blk.keep he id).set_ 1 v
 have h2 := hkw.size
 have h3 := hv.blk.lt
 have h4 := hks.size
 refine ⟨⟨.inl hv.own, by simpa using hbl, ?_, ?_, hv.dead⟩, (hkw.ext he).trans hks fun q _ e => by subst e; exact hv.own⟩
 ·refine (own_low (hb.keep EFl.ok hks (fun q hq e => ?_) (fun q hq e => ?_))).more EFl.ok fun q hq h => ?_
  ·exact hq.1.2 e
  ·have := (hb.lt hq).1; omega
  ·exact ⟨.inl h.1.1, h.1.2, fun e => by have := (hb.lt e).1; have := h.2; omega⟩
 ·intro q hq
  have h1 := hb.lt hq
  exact ⟨.inr ⟨by omega, by omega⟩, by omega⟩
theorem ref_append (w : World) (B : BS) (r : Nat) (cs : List DC) (s : DSt) (name : ByteArray) (bv : Value) (b : List UInt8) (S2 : BS) (hok : DOk cs s) (hp : cs.Pairwise fun x y => x.name ≠ y.name) (h : RdIs w B r cs s) (hb : BytesS w S2 bv b) (hS2 : ∀ k, S2 k → ¬ B k) (hz : name.size ≤ maxLen) :
  Calls Tryz.prog 40 #[.pointer (some ⟨r, 0, none⟩), .string name, bv] w (RRes w B r s (appR cs s name.data.toList b)) := by
 have HC := hid (ref_call w B r cs s hok.left h)
 obtain ⟨F0, dead0, h0⟩ := h
 have hB := h0.own
 obtain ⟨A, c, rfl, hlc, hcm⟩ := hb.shape
 unfold maxLen at hcm
 obtain ⟨R, fu, lf⟩ := s
 have HOK := hid hok
 have HU0 := hid (show usedC cs ≤ 1048576 from Nat.le_trans hok.used hok.room)
 have HROOM := hid (show R ≤ 1048576 from hok.room)
 obtain ⟨U, hU⟩ : ∃ U, usedC cs = U := ⟨_, rfl⟩
 have HU := hid hU
 obtain ⟨g, hg⟩ : ∃ g, goesC lf = g := ⟨_, rfl⟩
 have HG := hid hg
 have HP := hid hp
 have HB0 := hid hb
 have HS2 := hid hS2
 have HZ := hid hz
 clear h0 hp hb hS2 hz hok
 go_enter Tryz.func40, Tryz.ntmps40
 go_wp2_with fail
 refine HC.out.mono ?_
 rw [show goesC (DSt.mk R fu lf).left = g from hg]
 rintro e wz ⟨rfl, hr, hk⟩
 have HR := hid hr
 have HK := hid (show Keep B w wz from hk.mono fun k _ e => by subst e; exact hB)
 have HB := hid (HB0.out.keep EU8.ok hk fun k hk e => HS2.out k hk (by subst e; exact hB))
 obtain ⟨F1, dead1, h1⟩ := hr
 obtain ⟨c0, _, c2, _, _⟩ := h1.cells
 clear hk HC hB h1 hg hU
 cases g with
 | false =>
  have HF := hid (show fullC cs ⟨R, fu, lf⟩ b.length = true by unfold fullC; rw [HG.out]; rfl)
  have HE := hid (appR_full (name := name.data.toList) (b := b) HF.out)
  go_wp2_with fail
  refine M.wp_region_once [0] [1, 2, 3, 4, 5, 6, 7, 8, 9, 10, 11, 12, 13, 14, 15, 16, 17, 18] [19] (M.specOf [(16, fun v w' => v = .int .i64 (U : Int))])
   (fun w' => Keep (fun _ => False) wz w') (fun i => Keep (M.effOf [] i)) (M.onceOf 16 fun _ => True)
   ?_ (M.stableC_keep (fun i k h => by obtain ⟨x, hx, _, h⟩ := h; cases hx) _) ?_ (by kernel_rfl) (by kernel_rfl) (Keep.drew (Keep.refl _ _)) ?_ ?_
  ·exact M.stable_cons (fun j hj v w w' h he => h) M.stable_nil
  ·exact M.stableU_once fun j hj u u' h he => trivial
  ·intro k _ e
   trivial
  iterate 1
   (try simp only [Act.put, sqa, sqb, sqc])
   refine M.pure_run rfl rfl ?_
   apply Exists.intro
   refine ⟨fun w' => ?_, ?_⟩
   ·go_simp
    rfl
  refine M.pure_nil ?_
  iterate 2
   (try simp only [Act.put, sqa, sqb, sqc])
   refine M.u_run rfl rfl rfl ?_
   apply Exists.intro
   refine ⟨fun w' hC hU hK => ?_, ?_⟩
   ·go_simp
    rfl
  (try simp only [Act.put, sqa, sqb, sqc])
  with_reducible refine M.u_skip2 (some 16) ?_ ?_ ?_
  ·exact rfl
  ·exact rfl
  (try simp only [Act.put, sqa, sqb, sqc])
  with_reducible refine M.u_skip2 (some 17) ?_ ?_ ?_
  ·exact rfl
  ·exact rfl
  (try simp only [Act.put, sqa, sqb, sqc])
  with_reducible refine M.u_skip2 (some 18) ?_ ?_ ?_
  ·exact rfl
  ·exact rfl
  (try simp only [Act.put, sqa, sqb, sqc])
  with_reducible refine M.u_skip2 (some 19) ?_ ?_ ?_
  ·exact rfl
  ·exact rfl
  iterate 2
   (try simp only [Act.put, sqa, sqb, sqc])
   refine M.u_run rfl rfl rfl ?_
   apply Exists.intro
   refine ⟨fun w' hC hU hK => ?_, ?_⟩
   ·go_simp
    rfl
  (try simp only [Act.put, sqa, sqb, sqc])
  with_reducible refine M.u_skip2 (some 22) ?_ ?_ ?_
  ·exact rfl
  ·exact rfl
  (try simp only [Act.put, sqa, sqb, sqc])
  with_reducible refine M.u_skip2 (some 23) ?_ ?_ ?_
  ·exact rfl
  ·exact rfl
  (try simp only [Act.put, sqa, sqb, sqc])
  with_reducible refine M.u_skip2 (some 24) ?_ ?_ ?_
  ·exact rfl
  ·exact rfl
  (try simp only [Act.put, sqa, sqb, sqc])
  with_reducible refine M.u_skip2 (some 25) ?_ ?_ ?_
  ·exact rfl
  ·exact rfl
  (try simp only [Act.put, sqa, sqb, sqc])
  with_reducible refine M.u_skip2 (some 26) ?_ ?_ ?_
  ·exact rfl
  ·exact rfl
  (try simp only [Act.put, sqa, sqb, sqc])
  with_reducible refine M.u_skip2 (some 27) ?_ ?_ ?_
  ·exact rfl
  ·exact rfl
  (try simp only [Act.put, sqa, sqb, sqc])
  with_reducible refine M.u_skip2 (some 28) ?_ ?_ ?_
  ·exact rfl
  ·exact rfl
  (try simp only [Act.put, sqa, sqb, sqc])
  with_reducible refine M.u_skip2 (some 29) ?_ ?_ ?_
  ·exact rfl
  ·exact rfl
  (try simp only [Act.put, sqa, sqb, sqc])
  with_reducible refine M.u_skip2 (some 30) ?_ ?_ ?_
  ·exact rfl
  ·exact rfl
  (try simp only [Act.put, sqa, sqb, sqc])
  with_reducible refine M.u_skip2 (some 31) ?_ ?_ ?_
  ·exact rfl
  ·exact rfl
  refine M.u_nil fun wx hC hK => ?_
  have hC : Ext wz wx := hC
  have HRX := hid (HR.out.ext hC)
  have HKX := hid (HK.out.ext hC)
  have HBX := hid (HB.out.ext EU8.ok hC)
  clear hC hK c0 c2
  change wpList _ _ _ (_ :: []) _ _
  (try simp only [Act.put, sqa, sqb, sqc])
  go_wp2_with fail
  refine NoPanic.normal ?_
  go_wp2
  go_ret
  unfold RRes
  rw [HE.out]
  exact ⟨rfl, HRX.out.moreB, HKX.out⟩
 | true =>
  cases fu with
  | true =>
   have HF := hid (show fullC cs ⟨R, true, lf⟩ b.length = true by unfold fullC; simp)
   have HE := hid (appR_full (name := name.data.toList) (b := b) HF.out)
   go_wp2_with fail
   refine M.wp_region_once [0] [1, 2, 3, 4, 5, 6, 7, 8, 9, 10, 11, 12, 13, 14, 15, 16, 17, 18] [19] (M.specOf [(16, fun v w' => v = .int .i64 (U : Int))])
    (fun w' => Keep (fun _ => False) wz w') (fun i => Keep (M.effOf [] i)) (M.onceOf 16 fun _ => True)
    ?_ (M.stableC_keep (fun i k h => by obtain ⟨x, hx, _, h⟩ := h; cases hx) _) ?_ (by kernel_rfl) (by kernel_rfl) (Keep.drew (Keep.refl _ _)) ?_ ?_
   ·exact M.stable_cons (fun j hj v w w' h he => h) M.stable_nil
   ·exact M.stableU_once fun j hj u u' h he => trivial
   ·intro k _ e
    trivial
   iterate 1
    (try simp only [Act.put, sqa, sqb, sqc])
    refine M.pure_run rfl rfl ?_
    apply Exists.intro
    refine ⟨fun w' => ?_, ?_⟩
    ·go_simp
     rfl
   refine M.pure_nil ?_
   iterate 2
    (try simp only [Act.put, sqa, sqb, sqc])
    refine M.u_run rfl rfl rfl ?_
    apply Exists.intro
    refine ⟨fun w' hC hU hK => ?_, ?_⟩
    ·go_simp
     rfl
   iterate 5
    (try simp only [Act.put, sqa, sqb, sqc])
    refine M.u_run rfl rfl rfl ?_
    apply Exists.intro
    refine ⟨fun w' hC hU hK => ?_, ?_⟩
    ·have c2' := (hC.cell (lt_of_cell c2) id).trans c2
     go_simp
     rfl
   iterate 1
    (try simp only [Act.put, sqa, sqb, sqc])
    refine M.u_run rfl rfl rfl ?_
    apply Exists.intro
    refine ⟨fun w' hC hU hK => ?_, ?_⟩
    ·go_simp
     rfl
   (try simp only [Act.put, sqa, sqb, sqc])
   with_reducible refine M.u_skip2 (some 22) ?_ ?_ ?_
   ·exact rfl
   ·exact rfl
   (try simp only [Act.put, sqa, sqb, sqc])
   with_reducible refine M.u_skip2 (some 23) ?_ ?_ ?_
   ·exact rfl
   ·exact rfl
   (try simp only [Act.put, sqa, sqb, sqc])
   with_reducible refine M.u_skip2 (some 24) ?_ ?_ ?_
   ·exact rfl
   ·exact rfl
   (try simp only [Act.put, sqa, sqb, sqc])
   with_reducible refine M.u_skip2 (some 25) ?_ ?_ ?_
   ·exact rfl
   ·exact rfl
   (try simp only [Act.put, sqa, sqb, sqc])
   with_reducible refine M.u_skip2 (some 26) ?_ ?_ ?_
   ·exact rfl
   ·exact rfl
   (try simp only [Act.put, sqa, sqb, sqc])
   with_reducible refine M.u_skip2 (some 27) ?_ ?_ ?_
   ·exact rfl
   ·exact rfl
   (try simp only [Act.put, sqa, sqb, sqc])
   with_reducible refine M.u_skip2 (some 28) ?_ ?_ ?_
   ·exact rfl
   ·exact rfl
   (try simp only [Act.put, sqa, sqb, sqc])
   with_reducible refine M.u_skip2 (some 29) ?_ ?_ ?_
   ·exact rfl
   ·exact rfl
   (try simp only [Act.put, sqa, sqb, sqc])
   with_reducible refine M.u_skip2 (some 30) ?_ ?_ ?_
   ·exact rfl
   ·exact rfl
   (try simp only [Act.put, sqa, sqb, sqc])
   with_reducible refine M.u_skip2 (some 31) ?_ ?_ ?_
   ·exact rfl
   ·exact rfl
   refine M.u_nil fun wx hC hK => ?_
   have hC : Ext wz wx := hC
   have HRX := hid (HR.out.ext hC)
   have HKX := hid (HK.out.ext hC)
   have HBX := hid (HB.out.ext EU8.ok hC)
   clear hC hK c0 c2
   change wpList _ _ _ (_ :: []) _ _
   (try simp only [Act.put, sqa, sqb, sqc])
   go_wp2_with fail
   refine NoPanic.normal ?_
   go_wp2
   go_ret
   unfold RRes
   rw [HE.out]
   exact ⟨rfl, HRX.out.moreB, HKX.out⟩
  | false =>
   obtain ⟨q, hq⟩ : ∃ q, decide ((R : Int) - U < b.length) = q := ⟨_, rfl⟩
   have HF := hid (show fullC cs ⟨R, false, lf⟩ b.length = q by unfold fullC; rw [HG.out, HU.out, hq]; simp)
   have hwr : IntKind.i64.wrap ((R : Int) - U) = (R : Int) - U := by
    have h1 := HROOM.out; have h2 := HU0.out; rw [HU.out] at h2
    rw [IntKind.wrap_i64]; omega
   cases q with
   | true =>
    have HE := hid (appR_full (name := name.data.toList) (b := b) HF.out)
    go_wp2_with fail
    refine M.wp_region_once [0] [1, 2, 3, 4, 5, 6, 7, 8, 9, 10, 11, 12, 13, 14, 15, 16, 17, 18] [19] (M.specOf [(16, fun v w' => v = .int .i64 (U : Int))])
     (fun w' => Keep (fun _ => False) wz w') (fun i => Keep (M.effOf [] i)) (M.onceOf 16 fun _ => True)
     ?_ (M.stableC_keep (fun i k h => by obtain ⟨x, hx, _, h⟩ := h; cases hx) _) ?_ (by kernel_rfl) (by kernel_rfl) (Keep.drew (Keep.refl _ _)) ?_ ?_
    ·exact M.stable_cons (fun j hj v w w' h he => h) M.stable_nil
    ·exact M.stableU_once fun j hj u u' h he => trivial
    ·intro k _ e
     trivial
    iterate 1
     (try simp only [Act.put, sqa, sqb, sqc])
     refine M.pure_run rfl rfl ?_
     apply Exists.intro
     refine ⟨fun w' => ?_, ?_⟩
     ·go_simp
      rfl
    refine M.pure_nil ?_
    iterate 2
     (try simp only [Act.put, sqa, sqb, sqc])
     refine M.u_run rfl rfl rfl ?_
     apply Exists.intro
     refine ⟨fun w' hC hU hK => ?_, ?_⟩
     ·go_simp
      rfl
    iterate 5
     (try simp only [Act.put, sqa, sqb, sqc])
     refine M.u_run rfl rfl rfl ?_
     apply Exists.intro
     refine ⟨fun w' hC hU hK => ?_, ?_⟩
     ·have c2' := (hC.cell (lt_of_cell c2) id).trans c2
      go_simp
      rfl
    iterate 1
     (try simp only [Act.put, sqa, sqb, sqc])
     refine M.u_run rfl rfl rfl ?_
     apply Exists.intro
     refine ⟨fun w' hC hU hK => ?_, ?_⟩
     ·go_simp
      rfl
    iterate 7
     (try simp only [Act.put, sqa, sqb, sqc])
     refine M.u_run rfl rfl rfl ?_
     apply Exists.intro
     refine ⟨fun w' hC hU hK => ?_, ?_⟩
     ·have c0' := (hC.cell (lt_of_cell c0) id).trans c0
      go_simp
      rfl
    (try simp only [Act.put, sqa, sqb, sqc])
    refine M.u_eff rfl rfl rfl (fun w' hC hU hK => ?_) (fun v16 hv16 => ?_)
    ·unfold M.growAt
     go_simp
     refine M.grow_call ((ref_used _ B r cs _ HU0.out (HR.out.ext hC)).mono ?_)
     rintro e w'' ⟨rfl, rfl⟩
     exact ⟨_, rfl, Keep.refl _ _, by rw [HU.out]⟩
    obtain ⟨_, _, rfl⟩ := hv16
    iterate 2
     (try simp only [Act.put, sqa, sqb, sqc])
     refine M.u_run rfl rfl rfl ?_
     apply Exists.intro
     refine ⟨fun w' hC hU hK => ?_, ?_⟩
     ·go_simp
      rfl
    refine M.u_nil fun wx hC hK => ?_
    have hC : Ext wz wx := hC
    have HRX := hid (HR.out.ext hC)
    have HKX := hid (HK.out.ext hC)
    have HBX := hid (HB.out.ext EU8.ok hC)
    clear hC hK c0 c2
    change wpList _ _ _ (_ :: []) _ _
    (try simp only [Act.put, sqa, sqb, sqc])
    go_wp2_with fail
    refine NoPanic.normal ?_
    go_wp2
    go_ret
    unfold RRes
    rw [HE.out]
    exact ⟨rfl, HRX.out.moreB, HKX.out⟩
   | false =>
    have HSM := hid (show b.length ≤ 1048576 by have := of_decide_eq_false hq; have := HROOM.out; omega)
    go_wp2_with fail
    refine M.wp_region_once [0] [1, 2, 3, 4, 5, 6, 7, 8, 9, 10, 11, 12, 13, 14, 15, 16, 17, 18] [19] (M.specOf [(16, fun v w' => v = .int .i64 (U : Int))])
     (fun w' => Keep (fun _ => False) wz w') (fun i => Keep (M.effOf [] i)) (M.onceOf 16 fun _ => True)
     ?_ (M.stableC_keep (fun i k h => by obtain ⟨x, hx, _, h⟩ := h; cases hx) _) ?_ (by kernel_rfl) (by kernel_rfl) (Keep.drew (Keep.refl _ _)) ?_ ?_
    ·exact M.stable_cons (fun j hj v w w' h he => h) M.stable_nil
    ·exact M.stableU_once fun j hj u u' h he => trivial
    ·intro k _ e
     trivial
    iterate 1
     (try simp only [Act.put, sqa, sqb, sqc])
     refine M.pure_run rfl rfl ?_
     apply Exists.intro
     refine ⟨fun w' => ?_, ?_⟩
     ·go_simp
      rfl
    refine M.pure_nil ?_
    iterate 2
     (try simp only [Act.put, sqa, sqb, sqc])
     refine M.u_run rfl rfl rfl ?_
     apply Exists.intro
     refine ⟨fun w' hC hU hK => ?_, ?_⟩
     ·go_simp
      rfl
    iterate 5
     (try simp only [Act.put, sqa, sqb, sqc])
     refine M.u_run rfl rfl rfl ?_
     apply Exists.intro
     refine ⟨fun w' hC hU hK => ?_, ?_⟩
     ·have c2' := (hC.cell (lt_of_cell c2) id).trans c2
      go_simp
      rfl
    iterate 1
     (try simp only [Act.put, sqa, sqb, sqc])
     refine M.u_run rfl rfl rfl ?_
     apply Exists.intro
     refine ⟨fun w' hC hU hK => ?_, ?_⟩
     ·go_simp
      rfl
    iterate 7
     (try simp only [Act.put, sqa, sqb, sqc])
     refine M.u_run rfl rfl rfl ?_
     apply Exists.intro
     refine ⟨fun w' hC hU hK => ?_, ?_⟩
     ·have c0' := (hC.cell (lt_of_cell c0) id).trans c0
      go_simp
      rfl
    (try simp only [Act.put, sqa, sqb, sqc])
    refine M.u_eff rfl rfl rfl (fun w' hC hU hK => ?_) (fun v16 hv16 => ?_)
    ·unfold M.growAt
     go_simp
     refine M.grow_call ((ref_used _ B r cs _ HU0.out (HR.out.ext hC)).mono ?_)
     rintro e w'' ⟨rfl, rfl⟩
     exact ⟨_, rfl, Keep.refl _ _, by rw [HU.out]⟩
    obtain ⟨_, _, rfl⟩ := hv16
    iterate 2
     (try simp only [Act.put, sqa, sqb, sqc])
     refine M.u_run rfl rfl rfl ?_
     apply Exists.intro
     refine ⟨fun w' hC hU hK => ?_, ?_⟩
     ·go_simp
      rfl
    refine M.u_nil fun wx hC hK => ?_
    have hC : Ext wz wx := hC
    have HRX := hid (HR.out.ext hC)
    have HKX := hid (HK.out.ext hC)
    have HBX := hid (HB.out.ext EU8.ok hC)
    clear hC hK c0 c2
    change wpList _ _ _ (_ :: []) _ _
    (try simp only [Act.put, sqa, sqb, sqc])
    go_wp2_with fail
    refine NoPanic.normal ?_
    go_wp2_with fail
    refine (ref_find wx B r cs _ name HRX.out).mono ?_
    rcases find_cases cs name.data.toList with ⟨hz, hf, hh⟩ | ⟨k, hk, hz, hf, hn, hh⟩
    ·rw [hz]
     rintro e w1 ⟨rfl, rfl⟩
     have hm0 : ∀ h : mayC cs.length name.data.toList = false, appR cs ⟨R, false, lf⟩ name.data.toList b = (130, cs) := fun h => by rw [appR, if_neg (by rw [HF.out]; simp), if_neg (by simp [hh]), if_neg (by simp [h])]
     have hm1 : ∀ h : mayC cs.length name.data.toList = true, appR cs ⟨R, false, lf⟩ name.data.toList b = (0, insC ⟨name.data.toList, b, 0⟩ cs) := fun h => by rw [appR, if_neg (by rw [HF.out]; simp), if_neg (by simp [hh]), if_pos h]
     obtain ⟨F, dead, hv⟩ := HRX.out
     obtain ⟨AF, cF, rfl, hlc', hcm'⟩ := hv.row.shape
     unfold maxLen at hcm'
     have HH2 := hid hh
     obtain ⟨_, c1, _, _, _⟩ := hv.cells
     obtain ⟨n, hLn⟩ : ∃ n, cs.length = n := ⟨_, rfl⟩
     have hs := hv.row.sl EFl.ok
     rw [hLn] at c1 hlc' hm0 hm1 hs hv
     have HLN := hid hLn
     have HVX := hid hv
     have C1 := hid c1
     have HS := hid hs
     have hsz : name.data.toList.length = name.size := Array.length_toList
     have hmay : mayC n name.data.toList = (decide (n < 64) && decide (name.data.toList ≠ []) && decide (name.size ≤ 30)) := by unfold mayC; rw [hsz]; cases name.data.toList <;> simp
     have HM0 := hid hm0
     have HM1 := hid hm1
     have HMAY := hid hmay
     clear hz hf hh hm0 hm1 hLn hs hv hsz hmay
     by_cases h64 : 64 ≤ n
     ·have hX : decide ((64 : Int) ≤ (n : Int)) = true := by simp; omega
      have HE := hid (HM0.out (by rw [HMAY.out]; simp; omega))
      clear h64
      go_wp2
      go_ret
      unfold RRes
      rw [HE.out]
      exact ⟨rfl, HRX.out.moreB, HKX.out⟩
     ·have hX : decide ((64 : Int) ≤ (n : Int)) = false := by simp; omega
      have hn64 : n < 64 := by omega
      have HN64 := hid hn64
      clear h64 hn64
      by_cases he : name = ⟨#[]⟩
      ·have HE := hid (HM0.out (by rw [HMAY.out, he]; simp))
       subst he
       go_wp2
       go_ret
       unfold RRes
       rw [HE.out]
       exact ⟨rfl, HRX.out.moreB, HKX.out⟩
      ·have hdn : name.data.toList ≠ [] := fun e => he (by
        cases name with
        | mk a => have : a = #[] := by simpa using e
                  rw [this])
       have hne : ¬ name.toList = [] := by rw [ByteArray.toList_eq]; exact hdn
       have hne2 : name.toList.isEmpty = false := by simpa using hne
       have HDN := hid hdn
       clear hdn he
       by_cases h30 : name.size ≤ 30
       ·have hX3 : decide ((30 : Int) < (name.size : Int)) = false := by simp; omega
        have HE0 := hid (HM1.out (by rw [HMAY.out]; have := HN64.out; have := HDN.out; simp_all))
        clear h30
        go_wp2_with fail
        go_loop [8] (fun i => ∃ k : Nat, k ≤ n ∧ i = .int .i64 k ∧ (∀ i (hi : i < cs.length), i < k → Op.bytesLess (cs[i]'hi).name name.data.toList = true)) (fun i => n - (intOf i).toNat)
        case atStart => exact ⟨0, by omega, rfl, fun i _ h => by omega⟩
        case round =>
         obtain ⟨k, hkl, rfl, hfl⟩ := hrel
         have HFL := hid hfl
         clear hfl
         by_cases hlt : k < n
         ·have hjm : k < cs.length := by rw [HLN.out]; exact hlt
          obtain ⟨b1, o1, cc0, rfl, _, _, ⟨bv, rfl, _⟩, hcell⟩ := HS.out.at_ EFl.ok hjm
          have e0 := hcell 0 _ rfl
          have e3 : EFl.size = 3 := rfl
          simp only [e3, Nat.add_zero] at e0
          have hjX : (k : Int) < n := by omega
          clear hcell e3
          have hbr : Op.bytesLess (textOf cs[k].name).toList name.toList = Op.bytesLess cs[k].name name.data.toList := by rw [textOf_toList, ByteArray.toList_eq]
          have HBR := hid hbr
          clear hbr
          obtain ⟨q, hq⟩ : ∃ q, Op.bytesLess (textOf cs[k].name).toList name.toList = q := ⟨_, rfl⟩
          generalize textOf cs[k].name = y at *
          cases q with
          | true =>
           have HQ := hid hq
           have ew : IntKind.i64.wrap ((k : Int) + 1) = (k : Int) + 1 := by have := HN64.out; rw [IntKind.wrap_i64]; omega
           go_wp2
           refine ⟨⟨k + 1, by omega, by go_num, fun i hi hik => ?_⟩, by simp [intOf]; omega⟩
           by_cases e : i = k
           ·subst e; rw [← HBR.out]; exact HQ.out
           ·exact HFL.out i hi (by omega)
          | false =>
           have HPF := hid (show ∀ h : k < cs.length, Op.bytesLess (cs[k]'h).name name.data.toList = false from fun h => by rw [← HBR.out]; exact hq)
           obtain ⟨hf1, hs1⟩ := front_fact (P := Tryz.prog) EFl.ok ty_fl HS.out (b := (k : Int)) rfl (by have := HLN.out; omega)
           obtain ⟨A', hf2, hs2⟩ := tail_fact (P := Tryz.prog) EFl.ok ty_fl HS.out (a := (k : Int)) rfl (by have := HLN.out; omega)
           have HS1 := hid (hs1.more (S' := fun q => (B q ∧ q ≠ r) ∧ q < wx.heap.size) EFl.ok fun q hq e => ⟨e.elim (fun e => ⟨e.1, e.2.1⟩) (fun e => HVX.out.ownF q e), hq⟩)
           have HS2x := hid (hs2.more (S' := fun q => (B q ∧ q ≠ r) ∧ q < wx.heap.size) EFl.ok fun q hq e => ⟨e.elim (fun e => ⟨e.1, e.2.1⟩) (fun e => HVX.out.ownF q e), hq⟩)
           have HKLE := hid hkl
           clear hs1 hs2 hkl
           generalize n - k = p' at *
           generalize cF - k = c' at *
           go_wp2_with (at_builtin; refine wpList_own_append (v := .slice none 0 0) (y := .slice (some ⟨b1, o1, none⟩) k cF) wx rfl (.tmp 74) (.tmp 80) EFl.ok ty_fl rfl rfl rfl (Own.nil _ wx.heap.size _ (fun _ => False)) HS1.out (fun g hg => by simp [Value.ownBlock] at hg) (by have := HLN.out; have := HOK.out.many; simp; omega) (by have := HLN.out; have := HOK.out.many; unfold maxLen; simp; omega) (Nat.le_refl _) ?_)
           intro v1 wa hown1 hka _
           have hea : Ext wx wa := hka.mono fun k _ h => by simp [Value.ownBlock] at h
           have c1a := (hea.cell (lt_of_cell C1.out) id).trans C1.out
           have HO1 := hid hown1
           have HEA := hid hea
           have HRx := hid (RowS.new (w := wa) (t := TRF) (sz := 3) (n := 1) (cs := [.string name, .slice none 0 0, .int .i64 0]) rfl (by simp [maxLen]) (0, 0))
           have HDx := hid (Cells.single (E := EFl) (w := wa.alloc (.cells #[.string name, .slice none 0 0, .int .i64 0] TRF)) (S := fun _ => False) (x := ⟨name.data.toList, [], 0⟩) (cs := [.string name, .slice none 0 0, .int .i64 0]) ⟨_, rfl, Sl.nil _ _⟩)
           have hst : Ext wa (wa.alloc (.cells #[.string name, .slice none 0 0, .int .i64 0] TRF)) := (Keep.refl _ _).alloc _
           have HST := hid hst
           have HO1b := hid (HO1.out.ext EFl.ok hst)
           clear c1 hown1 hka hea hf1 hst
           go_wp2_with (at_builtin; refine wpList_own_append2 (ys := [⟨name.data.toList, [], 0⟩]) _ rfl (.tmp 82) (.tmp 85) EFl.ok ty_fl rfl rfl rfl HO1b.out HRx.out HDx.out ?d1 ?d2 ?d3 ?d4 ?_)
           case d1 => intro q hq; have := (HO1.out.lt hq).1; exact ⟨fun h => by have := h.2; omega, fun h => h⟩
           case d2 => have := HLN.out; have := HOK.out.many; simp; omega
           case d3 => have := HLN.out; have := HOK.out.many; unfold maxLen; simp; omega
           case d4 => exact Nat.le_trans HEA.out.size HST.out.size
           intro v2 wb hown2 hkb _
           have heb : Ext wx wb := (HEA.out.trans HST.out fun _ _ h => h).trans hkb fun q hq e => by have := (HO1.out.lt e).1; omega
           have HO2 := hid (show Own EFl wb wx.heap.size TRF (fun q => (B q ∧ q ≠ r) ∧ q < wx.heap.size) v2 (cs.take k ++ [⟨name.data.toList, [], 0⟩]) from by simpa using hown2)
           have HS3 := hid (HS2x.out.ext EFl.ok heb)
           have HEB := hid heb
           have c1b := (heb.cell (lt_of_cell C1.out) id).trans C1.out
           clear c1a hown2 hkb heb HO1b HRx HDx HO1
           go_wp2_with (at_builtin; refine wpList_own_append (v := v2) (y := .slice A' p' c') wb rfl (.tmp 87) (.tmp 93) EFl.ok ty_fl rfl rfl rfl HO2.out HS3.out ?g1 ?c1 ?c2 HEB.out.size ?_)
           case g1 => intro q hq; have := (HO2.out.lt hq).1; exact ⟨fun h => by have := h.2; omega, fun h => by have := h.2; omega⟩
           case c1 => have := HLN.out; have := HOK.out.many; simp; omega
           case c2 => have := HLN.out; have := HOK.out.many; unfold maxLen; simp; omega
           intro v3 w4 hown3 hkc _
           have hec : Ext wx w4 := HEB.out.trans hkc fun q hq e => by have := (HO2.out.lt e).1; omega
           have hz := (HVX.out.blk.keep hec id).frozen
           have c1d := (hec.cell (lt_of_cell C1.out) id).trans C1.out
           have hown4 : Own EFl w4 wx.heap.size TRF (fun q => (B q ∧ q ≠ r) ∧ q < wx.heap.size) v3 (cs.take k ++ ⟨name.data.toList, [], 0⟩ :: cs.drop k) := by simpa using hown3
           obtain ⟨hv, hkv⟩ := row_end HVX.out HKX.out hec hown4
           obtain ⟨L, hL⟩ : ∃ L, cs.take k ++ (⟨name.data.toList, [], 0⟩ : DC) :: cs.drop k = L := ⟨_, rfl⟩
           have hkn : k ≤ cs.length := by have := HLN.out; have := HKLE.out; omega
           have HE := hid (show appR cs ⟨R, false, lf⟩ name.data.toList b = (0, L.set k ⟨name.data.toList, b, 0⟩) by rw [HE0.out, insC_swap hkn (fun i hi hik => HFL.out i hi hik) HPF.out HH2.out, hL])
           have hk : k < L.length := by rw [← hL, ins_len hkn]; omega
           have HLK := hid (show L[k] = ⟨name.data.toList, [], 0⟩ by subst hL; exact rd_ins_get hkn)
           have HXB := hid (show (L[k]).b.length ≤ 1048576 by rw [HLK.out]; simp)
           rw [hL] at hown4 hv
           obtain ⟨A3, c3, rfl, _, _⟩ := hown4.shape
           obtain ⟨n3, hn3⟩ : ∃ n3, L.length = n3 := ⟨_, rfl⟩
           have HKV0 := hid hkv
           have hkw5 : Keep (· = r) wx (w4.setCell ⟨r, 1, none⟩ (.slice A3 L.length c3)) := (show Keep (· = r) wx w4 from hec.mono fun _ _ h => h.elim).trans ((Keep.refl (· = r) w4).set1 1 _) fun _ _ h => h
           have HBX0 := hid (HBX.out.keep EU8.ok hkw5 fun q hq e => HS2.out q hq (by subst e; exact HVX.out.own))
           clear c1b hown3 hown4 hkc hec hf2 hkw5 hkv hL hkn HO2
           rw [hn3]
           rw [hn3] at hv HKV0 HBX0
           obtain ⟨W5, hW5⟩ : ∃ W5, w4.setCell ⟨r, 1, none⟩ (.slice A3 n3 c3) = W5 := ⟨_, rfl⟩
           rw [hW5] at hv HKV0 HBX0
           have HKV := HKV0
           have HBX := HBX0
           clear hn3
           obtain ⟨AF, cF, hFF, hlc', hcm'⟩ := hv.row.shape
           injection hFF with hA hBx hCx
           have hA := hA.symm
           have hCx := hCx.symm
           subst hA hBx hCx
           obtain ⟨g, rfl⟩ : ∃ g, AF = some ⟨g, 0, none⟩ := by
            obtain ⟨g, cap, e, _⟩ := hv.row.form (by omega)
            injection e with e1
            exact ⟨g, e1⟩
           unfold maxLen at hcm'
           obtain ⟨n, hLn⟩ : ∃ n, (L).length = n := ⟨_, rfl⟩
           rw [hLn] at hv hlc'
           obtain ⟨_, c1, _, _, _⟩ := hv.cells
           obtain ⟨cc, ⟨bv0, rfl, hbk⟩, hcell⟩ := hv.row.at_ EFl.ok hk
           obtain ⟨A2, c2', rfl, hc2, _⟩ := hbk.shape
           have e1 := hcell 1 _ rfl
           have e3 : EFl.size = 3 := rfl
           simp only [e3] at e1
           have hfz := hv.row.frozen
           have hkX : (k : Int) < n := by omega
           have HV := hid hv
           have HKL := hid hk
           have HBK := hid (hbk.more (S' := fun q => q < W5.heap.size) EU8.ok fun q hq _ => hq)
           have HBV2 := hid (HBX.out.more (S' := fun q => q < W5.heap.size) EU8.ok fun q hq _ => hq)
           clear hcell e3 hbk hv hLn
           obtain ⟨x, hx⟩ : ∃ x, (L[k]'HKL.out).b = x := ⟨_, rfl⟩
           rw [hx] at HBK e1 HXB hc2
           have HX := hid hx
           have HE1 := hid e1
           clear hx
           go_wp2_with (at_builtin; refine wpList_append_bytes (v := .slice none 0 0) (y := .slice A2 x.length c2') (xs := []) (ys := x) (base := W5.heap.size) (S2 := fun q => q < W5.heap.size) rfl (.tmp 99) (.tmp 107) ty_u8 rfl rfl rfl (Own.nil _ _ _ _) HBK.out (fun g hg => by simp [Value.ownBlock] at hg) (by have := HXB.out; simp; omega) (Nat.le_refl _) ?_)
           intro Ao co w2 hown hlo hco hk2
           have hn0 : ([] : List UInt8).length + x.length = x.length := by simp
           try rw [hn0] at hown
           try rw [hn0]
           have hE2 : Ext W5 w2 := hk2.mono fun k _ h => by simp [Value.ownBlock] at h
           have HE2 := hid hE2
           have HO := hid (show Own EU8 w2 W5.heap.size 5 (fun _ => False) (.slice Ao x.length co) x from by simpa using hown)
           have HBV3 := hid (HBV2.out.ext EU8.ok hE2)
           have c1b := (hE2.cell (lt_of_cell c1) id).trans c1
           clear hown hk2 hn0 hE2 c1 e1 hfz
           go_wp2_with (at_builtin; refine wpList_append_bytes (v := .slice Ao x.length co) (y := .slice A b.length c) (xs := x) (ys := b) (base := W5.heap.size) (S2 := fun q => q < W5.heap.size) rfl (.tmp 109) (.tmp 110) ty_u8 rfl rfl rfl HO.out HBV3.out (fun g hg => by have := (HO.out.lt hg).1; omega) (by have := HXB.out; have := HSM.out; omega) HE2.out.size ?_)
           intro A9 c9 w3 hown hlo9 hco9 hk3
           have hE3 : Ext W5 w3 := HE2.out.trans hk3 fun q hq e => by have := (HO.out.lt e).1; omega
           have HO9 := hid hown
           have hv3 := HV.out.keep hE3 fun _ _ x => x
           have c1c := hv3.cells.2.1
           have hfz := hv3.row.frozen
           have e1c := (hE3.cell (lt_of_cell HE1.out) id).trans HE1.out
           have HE3 := hid hE3
           clear hown hk3 hE3 hv3 c1b hlo9 hco9
           generalize x.length + b.length = n9 at *
           go_wp2
           go_ret
           unfold RRes
           rw [HE.out]
           exact ⟨rfl, app_end HV.out HKV.out HE3.out HKL.out HO9.out (by rw [← HX.out, HLK.out]; rfl)⟩
         ·obtain rfl : k = n := by omega
          have HPF := hid (show ∀ h : k < cs.length, Op.bytesLess (cs[k]'h).name name.data.toList = false from fun h => by have := HLN.out; omega)
          have hjX : ¬ (k : Int) < k := by omega
          obtain ⟨hf1, hs1⟩ := front_fact (P := Tryz.prog) EFl.ok ty_fl HS.out (b := (k : Int)) rfl (by have := HLN.out; omega)
          obtain ⟨A', hf2, hs2⟩ := tail_fact (P := Tryz.prog) EFl.ok ty_fl HS.out (a := (k : Int)) rfl (by have := HLN.out; omega)
          have HS1 := hid (hs1.more (S' := fun q => (B q ∧ q ≠ r) ∧ q < wx.heap.size) EFl.ok fun q hq e => ⟨e.elim (fun e => ⟨e.1, e.2.1⟩) (fun e => HVX.out.ownF q e), hq⟩)
          have HS2x := hid (hs2.more (S' := fun q => (B q ∧ q ≠ r) ∧ q < wx.heap.size) EFl.ok fun q hq e => ⟨e.elim (fun e => ⟨e.1, e.2.1⟩) (fun e => HVX.out.ownF q e), hq⟩)
          have HKLE := hid hkl
          clear hs1 hs2 hkl
          generalize k - k = p' at *
          generalize cF - k = c' at *
          go_wp2_with (at_builtin; refine wpList_own_append (v := .slice none 0 0) (y := .slice AF k cF) wx rfl (.tmp 74) (.tmp 80) EFl.ok ty_fl rfl rfl rfl (Own.nil _ wx.heap.size _ (fun _ => False)) HS1.out (fun g hg => by simp [Value.ownBlock] at hg) (by have := HLN.out; have := HOK.out.many; simp; omega) (by have := HLN.out; have := HOK.out.many; unfold maxLen; simp; omega) (Nat.le_refl _) ?_)
          intro v1 wa hown1 hka _
          have hea : Ext wx wa := hka.mono fun k _ h => by simp [Value.ownBlock] at h
          have c1a := (hea.cell (lt_of_cell C1.out) id).trans C1.out
          have HO1 := hid hown1
          have HEA := hid hea
          have HRx := hid (RowS.new (w := wa) (t := TRF) (sz := 3) (n := 1) (cs := [.string name, .slice none 0 0, .int .i64 0]) rfl (by simp [maxLen]) (0, 0))
          have HDx := hid (Cells.single (E := EFl) (w := wa.alloc (.cells #[.string name, .slice none 0 0, .int .i64 0] TRF)) (S := fun _ => False) (x := ⟨name.data.toList, [], 0⟩) (cs := [.string name, .slice none 0 0, .int .i64 0]) ⟨_, rfl, Sl.nil _ _⟩)
          have hst : Ext wa (wa.alloc (.cells #[.string name, .slice none 0 0, .int .i64 0] TRF)) := (Keep.refl _ _).alloc _
          have HST := hid hst
          have HO1b := hid (HO1.out.ext EFl.ok hst)
          clear c1 hown1 hka hea hf1 hst
          go_wp2_with (at_builtin; refine wpList_own_append2 (ys := [⟨name.data.toList, [], 0⟩]) _ rfl (.tmp 82) (.tmp 85) EFl.ok ty_fl rfl rfl rfl HO1b.out HRx.out HDx.out ?d1 ?d2 ?d3 ?d4 ?_)
          case d1 => intro q hq; have := (HO1.out.lt hq).1; exact ⟨fun h => by have := h.2; omega, fun h => h⟩
          case d2 => have := HLN.out; have := HOK.out.many; simp; omega
          case d3 => have := HLN.out; have := HOK.out.many; unfold maxLen; simp; omega
          case d4 => exact Nat.le_trans HEA.out.size HST.out.size
          intro v2 wb hown2 hkb _
          have heb : Ext wx wb := (HEA.out.trans HST.out fun _ _ h => h).trans hkb fun q hq e => by have := (HO1.out.lt e).1; omega
          have HO2 := hid (show Own EFl wb wx.heap.size TRF (fun q => (B q ∧ q ≠ r) ∧ q < wx.heap.size) v2 (cs.take k ++ [⟨name.data.toList, [], 0⟩]) from by simpa using hown2)
          have HS3 := hid (HS2x.out.ext EFl.ok heb)
          have HEB := hid heb
          have c1b := (heb.cell (lt_of_cell C1.out) id).trans C1.out
          clear c1a hown2 hkb heb HO1b HRx HDx HO1
          go_wp2_with (at_builtin; refine wpList_own_append (v := v2) (y := .slice A' p' c') wb rfl (.tmp 87) (.tmp 93) EFl.ok ty_fl rfl rfl rfl HO2.out HS3.out ?g1 ?c1 ?c2 HEB.out.size ?_)
          case g1 => intro q hq; have := (HO2.out.lt hq).1; exact ⟨fun h => by have := h.2; omega, fun h => by have := h.2; omega⟩
          case c1 => have := HLN.out; have := HOK.out.many; simp; omega
          case c2 => have := HLN.out; have := HOK.out.many; unfold maxLen; simp; omega
          intro v3 w4 hown3 hkc _
          have hec : Ext wx w4 := HEB.out.trans hkc fun q hq e => by have := (HO2.out.lt e).1; omega
          have hz := (HVX.out.blk.keep hec id).frozen
          have c1d := (hec.cell (lt_of_cell C1.out) id).trans C1.out
          have hown4 : Own EFl w4 wx.heap.size TRF (fun q => (B q ∧ q ≠ r) ∧ q < wx.heap.size) v3 (cs.take k ++ ⟨name.data.toList, [], 0⟩ :: cs.drop k) := by simpa using hown3
          obtain ⟨hv, hkv⟩ := row_end HVX.out HKX.out hec hown4
          obtain ⟨L, hL⟩ : ∃ L, cs.take k ++ (⟨name.data.toList, [], 0⟩ : DC) :: cs.drop k = L := ⟨_, rfl⟩
          have hkn : k ≤ cs.length := by have := HLN.out; have := HKLE.out; omega
          have HE := hid (show appR cs ⟨R, false, lf⟩ name.data.toList b = (0, L.set k ⟨name.data.toList, b, 0⟩) by rw [HE0.out, insC_swap hkn (fun i hi hik => HFL.out i hi hik) HPF.out HH2.out, hL])
          have hk : k < L.length := by rw [← hL, ins_len hkn]; omega
          have HLK := hid (show L[k] = ⟨name.data.toList, [], 0⟩ by subst hL; exact rd_ins_get hkn)
          have HXB := hid (show (L[k]).b.length ≤ 1048576 by rw [HLK.out]; simp)
          rw [hL] at hown4 hv
          obtain ⟨A3, c3, rfl, _, _⟩ := hown4.shape
          obtain ⟨n3, hn3⟩ : ∃ n3, L.length = n3 := ⟨_, rfl⟩
          have HKV0 := hid hkv
          have hkw5 : Keep (· = r) wx (w4.setCell ⟨r, 1, none⟩ (.slice A3 L.length c3)) := (show Keep (· = r) wx w4 from hec.mono fun _ _ h => h.elim).trans ((Keep.refl (· = r) w4).set1 1 _) fun _ _ h => h
          have HBX0 := hid (HBX.out.keep EU8.ok hkw5 fun q hq e => HS2.out q hq (by subst e; exact HVX.out.own))
          clear c1b hown3 hown4 hkc hec hf2 hkw5 hkv hL hkn HO2
          rw [hn3]
          rw [hn3] at hv HKV0 HBX0
          obtain ⟨W5, hW5⟩ : ∃ W5, w4.setCell ⟨r, 1, none⟩ (.slice A3 n3 c3) = W5 := ⟨_, rfl⟩
          rw [hW5] at hv HKV0 HBX0
          have HKV := HKV0
          have HBX := HBX0
          clear hn3
          obtain ⟨AF, cF, hFF, hlc', hcm'⟩ := hv.row.shape
          injection hFF with hA hBx hCx
          have hA := hA.symm
          have hCx := hCx.symm
          subst hA hBx hCx
          obtain ⟨g, rfl⟩ : ∃ g, AF = some ⟨g, 0, none⟩ := by
           obtain ⟨g, cap, e, _⟩ := hv.row.form (by omega)
           injection e with e1
           exact ⟨g, e1⟩
          unfold maxLen at hcm'
          obtain ⟨n, hLn⟩ : ∃ n, (L).length = n := ⟨_, rfl⟩
          rw [hLn] at hv hlc'
          obtain ⟨_, c1, _, _, _⟩ := hv.cells
          obtain ⟨cc, ⟨bv0, rfl, hbk⟩, hcell⟩ := hv.row.at_ EFl.ok hk
          obtain ⟨A2, c2', rfl, hc2, _⟩ := hbk.shape
          have e1 := hcell 1 _ rfl
          have e3 : EFl.size = 3 := rfl
          simp only [e3] at e1
          have hfz := hv.row.frozen
          have hkX : (k : Int) < n := by omega
          have HV := hid hv
          have HKL := hid hk
          have HBK := hid (hbk.more (S' := fun q => q < W5.heap.size) EU8.ok fun q hq _ => hq)
          have HBV2 := hid (HBX.out.more (S' := fun q => q < W5.heap.size) EU8.ok fun q hq _ => hq)
          clear hcell e3 hbk hv hLn
          obtain ⟨x, hx⟩ : ∃ x, (L[k]'HKL.out).b = x := ⟨_, rfl⟩
          rw [hx] at HBK e1 HXB hc2
          have HX := hid hx
          have HE1 := hid e1
          clear hx
          go_wp2_with (at_builtin; refine wpList_append_bytes (v := .slice none 0 0) (y := .slice A2 x.length c2') (xs := []) (ys := x) (base := W5.heap.size) (S2 := fun q => q < W5.heap.size) rfl (.tmp 99) (.tmp 107) ty_u8 rfl rfl rfl (Own.nil _ _ _ _) HBK.out (fun g hg => by simp [Value.ownBlock] at hg) (by have := HXB.out; simp; omega) (Nat.le_refl _) ?_)
          intro Ao co w2 hown hlo hco hk2
          have hn0 : ([] : List UInt8).length + x.length = x.length := by simp
          try rw [hn0] at hown
          try rw [hn0]
          have hE2 : Ext W5 w2 := hk2.mono fun k _ h => by simp [Value.ownBlock] at h
          have HE2 := hid hE2
          have HO := hid (show Own EU8 w2 W5.heap.size 5 (fun _ => False) (.slice Ao x.length co) x from by simpa using hown)
          have HBV3 := hid (HBV2.out.ext EU8.ok hE2)
          have c1b := (hE2.cell (lt_of_cell c1) id).trans c1
          clear hown hk2 hn0 hE2 c1 e1 hfz
          go_wp2_with (at_builtin; refine wpList_append_bytes (v := .slice Ao x.length co) (y := .slice A b.length c) (xs := x) (ys := b) (base := W5.heap.size) (S2 := fun q => q < W5.heap.size) rfl (.tmp 109) (.tmp 110) ty_u8 rfl rfl rfl HO.out HBV3.out (fun g hg => by have := (HO.out.lt hg).1; omega) (by have := HXB.out; have := HSM.out; omega) HE2.out.size ?_)
          intro A9 c9 w3 hown hlo9 hco9 hk3
          have hE3 : Ext W5 w3 := HE2.out.trans hk3 fun q hq e => by have := (HO.out.lt e).1; omega
          have HO9 := hid hown
          have hv3 := HV.out.keep hE3 fun _ _ x => x
          have c1c := hv3.cells.2.1
          have hfz := hv3.row.frozen
          have e1c := (hE3.cell (lt_of_cell HE1.out) id).trans HE1.out
          have HE3 := hid hE3
          clear hown hk3 hE3 hv3 c1b hlo9 hco9
          generalize x.length + b.length = n9 at *
          go_wp2
          go_ret
          unfold RRes
          rw [HE.out]
          exact ⟨rfl, app_end HV.out HKV.out HE3.out HKL.out HO9.out (by rw [← HX.out, HLK.out]; rfl)⟩
       ·have hX3 : decide ((30 : Int) < (name.size : Int)) = true := by simp; omega
        have HE := hid (HM0.out (by rw [HMAY.out]; simp [h30]))
        clear h30
        go_wp2
        go_ret
        unfold RRes
        rw [HE.out]
        exact ⟨rfl, HRX.out.moreB, HKX.out⟩
    ·rw [hz]
     rintro e w1 ⟨rfl, rfl⟩
     have HE := hid (show appR cs ⟨R, false, lf⟩ name.data.toList b = (0, cs.set k (moreC b cs[k])) by rw [appR, if_neg (by rw [HF.out]; simp), if_pos hh, upd_set hk HP.out hn])
     have HXB := hid (Nat.le_trans (mem_usedC (List.getElem_mem hk)) HU0.out)
     have HKV := HKX
     clear hz hf hh hn
     obtain ⟨F, dead, hv⟩ := (HRX.out.moreB : RdIs wx (moreB B w wx) r cs _)
     obtain ⟨AF, cF, rfl, hlc', hcm'⟩ := hv.row.shape
     obtain ⟨g, rfl⟩ : ∃ g, AF = some ⟨g, 0, none⟩ := by
      obtain ⟨g, cap, e, _⟩ := hv.row.form (by omega)
      injection e with e1
      exact ⟨g, e1⟩
     unfold maxLen at hcm'
     obtain ⟨n, hLn⟩ : ∃ n, (cs).length = n := ⟨_, rfl⟩
     rw [hLn] at hv hlc'
     obtain ⟨_, c1, _, _, _⟩ := hv.cells
     obtain ⟨cc, ⟨bv0, rfl, hbk⟩, hcell⟩ := hv.row.at_ EFl.ok hk
     obtain ⟨A2, c2', rfl, hc2, _⟩ := hbk.shape
     have e1 := hcell 1 _ rfl
     have e3 : EFl.size = 3 := rfl
     simp only [e3] at e1
     have hfz := hv.row.frozen
     have hkX : (k : Int) < n := by omega
     have HV := hid hv
     have HKL := hid hk
     have HBK := hid (hbk.more (S' := fun q => q < wx.heap.size) EU8.ok fun q hq _ => hq)
     have HBV2 := hid (HBX.out.more (S' := fun q => q < wx.heap.size) EU8.ok fun q hq _ => hq)
     clear hcell e3 hbk hv hLn
     obtain ⟨x, hx⟩ : ∃ x, (cs[k]'HKL.out).b = x := ⟨_, rfl⟩
     rw [hx] at HBK e1 HXB hc2
     have HX := hid hx
     have HE1 := hid e1
     clear hx
     go_wp2_with (at_builtin; refine wpList_append_bytes (v := .slice none 0 0) (y := .slice A2 x.length c2') (xs := []) (ys := x) (base := wx.heap.size) (S2 := fun q => q < wx.heap.size) rfl (.tmp 99) (.tmp 107) ty_u8 rfl rfl rfl (Own.nil _ _ _ _) HBK.out (fun g hg => by simp [Value.ownBlock] at hg) (by have := HXB.out; simp; omega) (Nat.le_refl _) ?_)
     intro Ao co w2 hown hlo hco hk2
     have hn0 : ([] : List UInt8).length + x.length = x.length := by simp
     try rw [hn0] at hown
     try rw [hn0]
     have hE2 : Ext wx w2 := hk2.mono fun k _ h => by simp [Value.ownBlock] at h
     have HE2 := hid hE2
     have HO := hid (show Own EU8 w2 wx.heap.size 5 (fun _ => False) (.slice Ao x.length co) x from by simpa using hown)
     have HBV3 := hid (HBV2.out.ext EU8.ok hE2)
     have c1b := (hE2.cell (lt_of_cell c1) id).trans c1
     clear hown hk2 hn0 hE2 c1 e1 hfz
     go_wp2_with (at_builtin; refine wpList_append_bytes (v := .slice Ao x.length co) (y := .slice A b.length c) (xs := x) (ys := b) (base := wx.heap.size) (S2 := fun q => q < wx.heap.size) rfl (.tmp 109) (.tmp 110) ty_u8 rfl rfl rfl HO.out HBV3.out (fun g hg => by have := (HO.out.lt hg).1; omega) (by have := HXB.out; have := HSM.out; omega) HE2.out.size ?_)
     intro A9 c9 w3 hown hlo9 hco9 hk3
     have hE3 : Ext wx w3 := HE2.out.trans hk3 fun q hq e => by have := (HO.out.lt e).1; omega
     have HO9 := hid hown
     have hv3 := HV.out.keep hE3 fun _ _ x => x
     have c1c := hv3.cells.2.1
     have hfz := hv3.row.frozen
     have e1c := (hE3.cell (lt_of_cell HE1.out) id).trans HE1.out
     have HE3 := hid hE3
     clear hown hk3 hE3 hv3 c1b hlo9 hco9
     generalize x.length + b.length = n9 at *
     go_wp2
     go_ret
     unfold RRes
     rw [HE.out]
     exact ⟨rfl, app_end HV.out HKV.out HE3.out HKL.out HO9.out (by rw [← HX.out]; rfl)⟩
end Go.Proofs.YtihaliffcobacaaGreatDoor
