/- DoC, FitsA: laid together. -/
import Derived.Test.YtggkidnlmaindaaDoorPxB39
import Derived.Test.YtggkidnlmaindaaDoorPxB35
set_option linter.unusedSimpArgs false
set_option linter.unusedVariables false
set_option maxHeartbeats 25600000
set_option maxRecDepth 20000
namespace Go.Proofs.YtggkidnlmaindaaDoor
open Go.RowKit
def BoxV (K n m : Nat) (v : Value) (w : World) : Prop := K ≤ n ∧ m = n + 1 ∧ v = .pointer (some ⟨n, 0, none⟩) ∧ Blk w n TVAL #[.int .u8 0, .int .i64 0, .string ⟨#[]⟩, .slice none 0 0, .slice none 0 0]
theorem BoxV.ext {K n m : Nat} {v : Value} {w w' : World} (h : BoxV K n m v w) (he : Ext w w') : BoxV K n m v w' := ⟨h.1, h.2.1, h.2.2.1, h.2.2.2.keep he id⟩
def OutZ (z : V) (K n m : Nat) (u : Value) (w : World) : Prop := K ≤ n ∧ ∃ (A : Option Addr) (c : Nat) (B : Option Addr) (d : Nat), u = .tuple #[.agg (vC z A c B d), .int .i64 0] ∧
 Sl EVal w (fun q => n ≤ q ∧ q < m) (.slice A z.l.length c) z.l ∧ Sl EField w (fun q => n ≤ q ∧ q < m) (.slice B z.o.length d) z.o
theorem OutZ.ext {z : V} {K n m : Nat} {u : Value} {w w' : World} (h : OutZ z K n m u w) (he : Ext w w') : OutZ z K n m u w' := by
 obtain ⟨h0, A, c, B, d, h1, h2, h3⟩ := h
 exact ⟨h0, A, c, B, d, h1, h2.ext EVal.ok he, h3.ext EField.ok he⟩
theorem Do6Is.outv {z : V} {w w' : World} {e : Ending} {K : Nat} (h : Do6Is w z e w') (hK : K ≤ w.heap.size) : ∃ u, e = .returned u ∧ Ext w w' ∧ OutZ z K w.heap.size w'.heap.size u w' := by
 obtain ⟨u, rfl, ⟨A, c, B, d, rfl, h1, h2⟩, hE⟩ := h
 exact ⟨_, rfl, hE, hK, A, c, B, d, rfl, h1.more EVal.ok fun k h1 h2 => ⟨h2, h1⟩, h2.more EField.ok fun k h1 h2 => ⟨h2, h1⟩⟩
def Do8Is (w : World) (z : V) (e : Ending) (w' : World) : Prop := ∃ u, e = .returned (.tuple #[u, .int .i64 0]) ∧ VIs w' (fun k => w.heap.size ≤ k) u z ∧ Ext w w'
theorem rdo8_ok (w0 w : World) (hw : Ext w0 w) (S S2 : BS) (u ov : Value) (v z : V) (cs : List Cp) (hv : VAt w S u v) (hvz : v.size ≤ 1000000) (ho : Sl ECp w S2 ov cs) (hn : cs.length ≤ 200) (hd : DoesC w0 v cs z) :
  Calls Tryd.prog 41 #[u, ov] w (Do8Is w z) := by
 obtain ⟨lx, ox, rfl, k1, k2⟩ := hv
 obtain ⟨Bl, dl, rfl, _⟩ := k1.shape
 obtain ⟨Bo, do_, rfl, _⟩ := k2.shape
 have ho := ho.more (S' := fun k => k < w.heap.size) ECp.ok fun k h _ => h
 obtain ⟨A, ca, rfl, hlc, hcm⟩ := ho.shape
 unfold maxLen at hcm
 obtain ⟨W, hW⟩ : ∃ W, (w.alloc (.cells (vC v Bl dl Bo do_) TVAL)).alloc (.cells #[.int .u8 0, .int .i64 0, .string ⟨#[]⟩, .slice none 0 0, .slice none 0 0] TVAL) = W := ⟨_, rfl⟩
 obtain ⟨hb0, hb1, hE⟩ := blk_pair w TVAL (vC v Bl dl Bo do_) #[.int .u8 0, .int .i64 0, .string ⟨#[]⟩, .slice none 0 0, .slice none 0 0]
 rw [hW] at hb0 hb1 hE
 have hsz : W.heap.size = w.heap.size + 1 + 1 := by rw [← hW]; simp
 have HV := hid (show VAt W S (.agg (vC v Bl dl Bo do_)) v from ⟨_, _, rfl, k1.ext EVal.ok hE, k2.ext EField.ok hE⟩)
 have HO := hid (ho.ext ECp.ok hE)
 have HE := hid hE
 have HSZ := hid hsz
 have HB0 := hid hb0
 have HB1 := hid hb1
 have HW0 := hid hw
 have HVZ := hid hvz
 have HD := hid hd
 obtain ⟨n, hnn⟩ : ∃ n, cs.length = n := ⟨_, rfl⟩
 have HN := hid hnn
 rw [hnn] at HO hlc hn ⊢
 have hnX : (n : Int) ≤ 200 := by omega
 obtain ⟨q0, q1, q2, q3, q4⟩ := blk5 hb0
 have f0 := hb0.frozen
 clear k1 k2 ho hE hsz hb0 hb1 hw hvz hd hnn
 go_enter Tryd.func41, Tryd.ntmps41
 go_wp2_with fail
 refine (rcopy_any 1000000 v HVZ.out (Nat.le_refl _) _ _ W HV.out).mono ?_
 rintro e w1 hcp
 obtain ⟨u1, rfl, hv1, hE1⟩ := hcp.at_
 obtain ⟨ly, oy, rfl, y1, y2⟩ := hv1
 obtain ⟨Cl, el, rfl, _⟩ := y1.shape
 obtain ⟨Co, eo, rfl, _⟩ := y2.shape
 have hb1' := HB0.out.keep hE1 id
 have hk1 : Keep (· = w.heap.size) w1 (set5 w1 w.heap.size 0 (U8 v.kind) (.int .i64 v.n) (.string v.s) (.slice Cl v.l.length el) (.slice Co v.o.length eo)) := set5_keep _ _ _ _ _ _ _ _
 have HB := hid (set5_full hb1' (U8 v.kind) (.int .i64 v.n) (.string v.s) (.slice Cl v.l.length el) (.slice Co v.o.length eo))
 have hsz := HSZ.out
 have HY := hid (show VAt (set5 w1 w.heap.size 0 (U8 v.kind) (.int .i64 v.n) (.string v.s) (.slice Cl v.l.length el) (.slice Co v.o.length eo)) (fun q => W.heap.size ≤ q) (.agg (vC v Cl el Co eo)) v from
  ⟨_, _, rfl, y1.keep EVal.ok hk1 fun q h e => by have h : W.heap.size ≤ q := h; omega, y2.keep EField.ok hk1 fun q h e => by have h : W.heap.size ≤ q := h; omega⟩)
 have HK := hid (show Keep (· = w.heap.size) W (set5 w1 w.heap.size 0 (U8 v.kind) (.int .i64 v.n) (.string v.s) (.slice Cl v.l.length el) (.slice Co v.o.length eo)) from (hE1.mono fun _ _ h => h.elim).trans hk1 fun q _ h => h)
 obtain ⟨p0, p1, p2, p3, p4⟩ := blk5 hb1'
 have f1 := hb1'.frozen
 clear q0 q1 q2 q3 q4 f0 y1 y2 hb1' hk1 hE1 hcp HB0 hsz hW
 go_upto_region 4 with fail
 change Code.wp _ _ _ _ (set5 w1 w.heap.size 0 (U8 v.kind) (.int .i64 v.n) (.string v.s) (.slice Cl v.l.length el) (.slice Co v.o.length eo))
 generalize (set5 w1 w.heap.size 0 (U8 v.kind) (.int .i64 v.n) (.string v.s) (.slice Cl v.l.length el) (.slice Co v.o.length eo)) = w2 at *
 clear p0 p1 p2 p3 p4 f1
 go_wp2_with fail
 go_loopw [6, 7, 8] (fun i _ _ wr => ∃ (j : Nat) (y : V) (lv ov : Value), i = .int .i64 j ∧ j ≤ n ∧ DoesC w0 y (cs.drop j) z ∧ Blk wr w.heap.size TVAL #[U8 y.kind, .int .i64 y.n, .string y.s, lv, ov] ∧
  VAt wr (fun q => W.heap.size ≤ q) (.agg #[U8 y.kind, .int .i64 y.n, .string y.s, lv, ov]) y ∧ Keep (· = w.heap.size) W wr) (fun i _ _ _ => n - (intOf i).toNat)
 case atStart => exact ⟨0, v, _, _, rfl, by omega, HD.out, HB.out, HY.out, HK.out⟩
 case round =>
  obtain ⟨j, y, lv, ov, rfl, hj, hdc, hb, hva, hkr⟩ := hrel
  obtain ⟨lv', ov', e, hxl, hxo⟩ := hva
  obtain ⟨e1, e2⟩ : lv = lv' ∧ ov = ov' := by simp at e; exact e
  subst e1 e2
  clear e
  obtain ⟨A2, c2, rfl, h2l, h2m⟩ := hxl.shape
  obtain ⟨A3, c3, rfl, h3l, h3m⟩ := hxo.shape
  have HYr := hid (show VAt wr (fun q => W.heap.size ≤ q) (.agg (vC y A2 c2 A3 c3)) y from ⟨_, _, rfl, hxl, hxo⟩)
  have HKr := hid hkr
  have HBY := hid hb
  have HDC := hid hdc
  have hws := HSZ.out
  have HOr := hid (HO.out.keep ECp.ok hkr fun q hq e => by omega)
  obtain ⟨q0, q1, q2, q3, q4⟩ := blk5 hb
  have fq := hb.frozen
  clear hxl hxo hkr hb hws hdc
  by_cases hlt : j < n
  ·have hltX : (j : Int) < n := by omega
   have hj' : j < cs.length := by rw [HN.out]; exact hlt
   obtain ⟨bp, op, c0, rfl, _, _, ⟨pva, vva, ova, rfl, p1, p2, p3⟩, hcell⟩ := HOr.out.at_ ECp.ok hj'
   rw [show cs.drop j = cs[j] :: cs.drop (j + 1) from List.drop_eq_getElem_cons hj'] at HDC
   generalize cs[j] = c at *
   obtain ⟨y2, hdo, hdr⟩ := HDC.out
   have HDO := hid hdo
   have HDR := hid hdr
   obtain ⟨Ap, cp, rfl, _⟩ := p1.shape
   obtain ⟨Aq, cq, rfl, _⟩ := p2.shape
   obtain ⟨Ar, cr, rfl, _⟩ := p3.shape
   have HCC := hid (show CAt wr (fun k => k < w.heap.size) (.agg (cC c Ap cp Aq cq Ar cr)) c from ⟨_, _, _, rfl, p1, p2, p3⟩)
   have e12 : ECp.size = 12 := rfl
   have g0 := hcell 0 _ rfl
   have g1 := hcell 1 _ rfl
   have g2 := hcell 2 _ rfl
   have g3 := hcell 3 _ rfl
   have g4 := hcell 4 _ rfl
   have g5 := hcell 5 _ rfl
   have g6 := hcell 6 _ rfl
   have g7 := hcell 7 _ rfl
   have g8 := hcell 8 _ rfl
   have g9 := hcell 9 _ rfl
   have g10 := hcell 10 _ rfl
   have g11 := hcell 11 _ rfl
   simp only [e12, Nat.add_zero] at g0 g1 g2 g3 g4 g5 g6 g7 g8 g9 g10 g11
   have hwr : Ext w0 wr := (HW0.out.ext HE.out).trans HKr.out fun k hk e => by have := HW0.out.size; omega
   have HWR := hid hwr
   clear hcell p1 p2 p3 e12 hwr hj' hdo hdr HDC
   go_wp2_with fail
   refine H.wp_region_frees [8] [1, 2] [0, 3, 4, 5, 6, 7, 8, 9] [10] [11]
    (H.specOf [(5, OutZ y2 wr.heap.size), (9, BoxV wr.heap.size)])
    (fun w' => Ext wr w') ?_ (H.stableC_ext _) (by kernel_rfl) (by intro k hk; simp at hk; rcases hk with rfl | rfl <;> rfl) (by kernel_rfl) (Keep.drew (Keep.refl _ _)) ?_
   ·exact H.stable_cons (fun n m v w w' h he => h.ext he) (H.stable_cons (fun n m v w w' h he => h.ext he) H.stable_nil)
   iterate 2
    (try simp only [Act.put, sqa, sqb, sqc])
    refine H.pure_run rfl rfl ?_
    apply Exists.intro
    refine ⟨fun w' => ?_, ?_⟩
    ·go_simp
     rfl
   refine H.pure_nil ?_
   iterate 3
    (try simp only [Act.put, sqa, sqb, sqc])
    refine H.growP_run rfl rfl rfl ?_
    apply Exists.intro
    refine ⟨fun w' hC hK => ?_, ?_⟩
    ·have q0 := sqw hC q0
     have q1 := sqw hC q1
     have q2 := sqw hC q2
     have q3 := sqw hC q3
     have q4 := sqw hC q4
     have g0 := sqw hC g0
     have g1 := sqw hC g1
     have g2 := sqw hC g2
     have g3 := sqw hC g3
     have g4 := sqw hC g4
     have g5 := sqw hC g5
     have g6 := sqw hC g6
     have g7 := sqw hC g7
     have g8 := sqw hC g8
     have g9 := sqw hC g9
     have g10 := sqw hC g10
     have g11 := sqw hC g11
     go_simp
     rfl
   (try simp only [Act.put, sqa, sqb, sqc])
   refine H.growP_eff rfl rfl rfl (fun w' hC hK => ?_) (fun v5 nv5 mv5 hv5 => ?_)
   ·have hcall := (HDO.out w' _ _ _ _ (HWR.out.ext hC) (HYr.out.ext hC) (HCC.out.ext hC)).mono fun e w'' h => h.outv (K := wr.heap.size) hC.size
    unfold H.growAt
    go_simp
    exact H.grow_call hcall
   obtain ⟨_, _, _, A5, c5, B5, d5, rfl, _⟩ := hv5.head
   iterate 3
    (try simp only [Act.put, sqa, sqb, sqc])
    refine H.growP_run rfl rfl rfl ?_
    apply Exists.intro
    refine ⟨fun w' hC hK => ?_, ?_⟩
    ·go_simp
     rfl
   (try simp only [Act.put, sqa, sqb, sqc])
   refine H.growP_eff rfl rfl rfl (fun w' hC hK => ?_) (fun v9 nv9 mv9 hv9 => ?_)
   ·unfold H.growAt
    go_simp
    exact ⟨(Keep.refl _ _).alloc _, hC.size, by simp, rfl, Blk.new _ _ _⟩
   obtain ⟨_, _, hn9, hnm, rfl, _⟩ := hv9.head
   refine H.growP_nil fun w7 hC hK => ?_
   have hbox : BoxV wr.heap.size nv9 mv9 (.pointer (some ⟨nv9, 0, none⟩)) w7 := (hK.1 (9, _) List.mem_cons_self).1
   obtain ⟨hn5, A6, c6, B6, d6, e6, hl6, ho6⟩ : OutZ y2 wr.heap.size nv5 mv5 (.tuple #[.agg (vC y2 A5 c5 B5 d5), .int .i64 0]) w7 := (hK.1 (5, _) (List.mem_cons_of_mem _ List.mem_cons_self)).1
   simp at e6
   obtain ⟨⟨rfl, rfl⟩, rfl, rfl⟩ := e6
   have hap : mv9 ≤ nv5 ∨ mv5 ≤ nv9 := hK.2 (9, _) List.mem_cons_self (5, _) (List.mem_cons_of_mem _ List.mem_cons_self) (by simp)
   have hm9 := hbox.2.1
   have hk7 : Keep (· = nv9) w7 (set5 w7 nv9 0 (U8 y2.kind) (.int .i64 y2.n) (.string y2.s) (.slice A5 y2.l.length c5) (.slice B5 y2.o.length d5)) := set5_keep _ _ _ _ _ _ _ _
   have HB7 := hid (set5_full hbox.2.2.2 (U8 y2.kind) (.int .i64 y2.n) (.string y2.s) (.slice A5 y2.l.length c5) (.slice B5 y2.o.length d5))
   have HV7 := hid (show VAt (set5 w7 nv9 0 (U8 y2.kind) (.int .i64 y2.n) (.string y2.s) (.slice A5 y2.l.length c5) (.slice B5 y2.o.length d5)) (fun q => wr.heap.size ≤ q ∧ q ≠ nv9) (.agg (vC y2 A5 c5 B5 d5)) y2 from
    ⟨_, _, rfl, (hl6.keep EVal.ok hk7 fun q h e => by omega).more EVal.ok fun k _ h => ⟨by omega, by omega⟩, (ho6.keep EField.ok hk7 fun q h e => by omega).more EField.ok fun k _ h => ⟨by omega, by omega⟩⟩)
   have HE7 := hid (show Ext wr (set5 w7 nv9 0 (U8 y2.kind) (.int .i64 y2.n) (.string y2.s) (.slice A5 y2.l.length c5) (.slice B5 y2.o.length d5)) from hC.trans hk7 fun k hk e => by have := hbox.1; omega)
   have HN9 := hid hbox.1
   obtain ⟨r0, r1, r2, r3, r4⟩ := blk5 hbox.2.2.2
   have fr := hbox.2.2.2.frozen
   clear hbox hap hK hn9 hnm hn5 hm9 hl6 ho6 hk7 q0 q1 q2 q3 q4 fq g0 g1 g2 g3 g4 g5 g6 g7 g8 g9 g10 g11 hv5 hv9 hC
   change wpList _ _ _ (_ :: []) _ _
   (try simp only [Act.put, sqa, sqb, sqc])
   go_wp2_with fail
   refine H.Then.normal ?_
   iterate 1
    (try simp only [Act.put, sqa, sqb, sqc])
    refine H.pure_run rfl rfl ?_
    apply Exists.intro
    refine ⟨fun w' => ?_, ?_⟩
    ·go_simp
     rfl
   refine H.pure_nil ?_
   refine NoPanic.normal ?_
   (try simp only [Act.put, sqa, sqb, sqc])
   clear r0 r1 r2 r3 r4 fr
   change Exit.then _ _ Exit.normal _ (set5 w7 nv9 0 (U8 y2.kind) (.int .i64 y2.n) (.string y2.s) (.slice A5 y2.l.length c5) (.slice B5 y2.o.length d5))
   generalize set5 w7 nv9 0 (U8 y2.kind) (.int .i64 y2.n) (.string y2.s) (.slice A5 y2.l.length c5) (.slice B5 y2.o.length d5) = w8 at *
   have HBY8 := hid (HBY.out.keep HE7.out id)
   obtain ⟨q0, q1, q2, q3, q4⟩ := blk5 HBY8.out
   obtain ⟨r0, r1, r2, r3, r4⟩ := blk5 HB7.out
   have fq := HBY8.out.frozen
   have hks : Keep (· = w.heap.size) w8 (set5 w8 w.heap.size 0 (U8 y2.kind) (.int .i64 y2.n) (.string y2.s) (.slice A5 y2.l.length c5) (.slice B5 y2.o.length d5)) := set5_keep _ _ _ _ _ _ _ _
   have HB9 := hid (set5_full HBY8.out (U8 y2.kind) (.int .i64 y2.n) (.string y2.s) (.slice A5 y2.l.length c5) (.slice B5 y2.o.length d5))
   have HV9 := hid (HV7.out.keep hks fun q h e => by have := HKr.out.size; have := HSZ.out; have := h.1; omega)
   have HK9 := hid (show Keep (· = w.heap.size) W (set5 w8 w.heap.size 0 (U8 y2.kind) (.int .i64 y2.n) (.string y2.s) (.slice A5 y2.l.length c5) (.slice B5 y2.o.length d5)) from (HKr.out.trans HE7.out fun _ _ h => h.elim).trans hks fun q _ h => h)
   clear hks
   go_wp2_with fail
   change (∃ _, _) ∧ _
   have hszz := HKr.out.size
   exact ⟨⟨j + 1, y2, _, _, by go_num, by omega, HDR.out, HB9.out, HV9.out.more fun k _ h => Nat.le_trans hszz h.1, HK9.out⟩, by simp [intOf]; omega⟩
  ·obtain rfl : j = n := by omega
   have hltX : ¬ (j : Int) < j := by omega
   have hz : z = y := by have := HDC.out; rw [List.drop_of_length_le (by rw [HN.out]; exact Nat.le_refl _)] at this; exact this
   subst hz
   have HBR := hid (HB1.out.keep HKr.out (by omega))
   obtain ⟨p0, p1, p2, p3, p4⟩ := blk5 HBR.out
   have fp := HBR.out.frozen
   go_wp2_with fail
   have hk := set5_keep wr (w.heap.size + 1) 0 (U8 z.kind) (.int .i64 z.n) (.string z.s) (.slice A2 z.l.length c2) (.slice A3 z.o.length c3)
   have hf := set5_full HBR.out (U8 z.kind) (.int .i64 z.n) (.string z.s) (.slice A2 z.l.length c2) (.slice A3 z.o.length c3)
   change bodyPost _ _ _ _ _ (set5 wr (w.heap.size + 1) 0 (U8 z.kind) (.int .i64 z.n) (.string z.s) (.slice A2 z.l.length c2) (.slice A3 z.o.length c3))
   generalize set5 wr (w.heap.size + 1) 0 (U8 z.kind) (.int .i64 z.n) (.string z.s) (.slice A2 z.l.length c2) (.slice A3 z.o.length c3) = Wf at *
   obtain ⟨s0, s1, s2, s3, s4⟩ := blk5 hf
   refine bodyPost_ret (v := .tuple #[.agg (vC z A2 c2 A3 c3), .int .i64 0]) (by simp [results, Tryd.results41, go_sem, s0, s1, s2, s3, s4]) rfl ?_
   have hsz := HSZ.out
   refine ⟨_, rfl, VIs.of ((HYr.out.keep hk fun q h e => by have h : W.heap.size ≤ q := h; omega).more fun k _ h => by have h : W.heap.size ≤ k := h; omega), ?_⟩
   exact (HE.out.trans HKr.out fun k h1 h2 => by omega).trans hk fun k h1 h2 => by omega
def put9 (w : World) (g : Nat) (a0 a1 a2 a3 a4 a5 a6 a7 a8 : Value) : World := ((((((((w.setCell ⟨g, 0, none⟩ a0).setCell ⟨g, 1, none⟩ a1).setCell ⟨g, 2, none⟩ a2).setCell ⟨g, 3, none⟩ a3).setCell ⟨g, 4, none⟩ a4).setCell ⟨g, 5, none⟩ a5).setCell ⟨g, 6, none⟩ a6).setCell ⟨g, 7, none⟩ a7).setCell ⟨g, 8, none⟩ a8
theorem put9_keep (w : World) (g : Nat) (a0 a1 a2 a3 a4 a5 a6 a7 a8 : Value) : Keep (· = g) w (put9 w g a0 a1 a2 a3 a4 a5 a6 a7 a8) := (((((((((Keep.refl (· = g) w).set1 0 _).set1 1 _).set1 2 _).set1 3 _).set1 4 _).set1 5 _).set1 6 _).set1 7 _).set1 8 _
theorem put9_blk {w : World} {g : Nat} {T : TypeId} {b0 b1 b2 b3 b4 b5 b6 b7 b8 : Value} (h : Blk w g T #[b0, b1, b2, b3, b4, b5, b6, b7, b8]) (a0 a1 a2 a3 a4 a5 a6 a7 a8 : Value) : Blk (put9 w g a0 a1 a2 a3 a4 a5 a6 a7 a8) g T #[a0, a1, a2, a3, a4, a5, a6, a7, a8] := by
 have h1 := ((((((((h.set_ 0 a0).set_ 1 a1).set_ 2 a2).set_ 3 a3).set_ 4 a4).set_ 5 a5).set_ 6 a6).set_ 7 a7).set_ 8 a8
 simp only [sqa, sqb, sqc] at h1
 exact h1
theorem blk9 {w : World} {g : Nat} {T : TypeId} {a0 a1 a2 a3 a4 a5 a6 a7 a8 : Value} (h : Blk w g T #[a0, a1, a2, a3, a4, a5, a6, a7, a8]) : w.cell? ⟨g, 0, none⟩ = some a0 ∧ w.cell? ⟨g, 1, none⟩ = some a1 ∧ w.cell? ⟨g, 2, none⟩ = some a2 ∧ w.cell? ⟨g, 3, none⟩ = some a3 ∧ w.cell? ⟨g, 4, none⟩ = some a4 ∧ w.cell? ⟨g, 5, none⟩ = some a5 ∧ w.cell? ⟨g, 6, none⟩ = some a6 ∧ w.cell? ⟨g, 7, none⟩ = some a7 ∧ w.cell? ⟨g, 8, none⟩ = some a8 :=
 ⟨h.cell 0, h.cell 1, h.cell 2, h.cell 3, h.cell 4, h.cell 5, h.cell 6, h.cell 7, h.cell 8⟩
theorem aims_ok (w0 : World) (hva : ValAny w0) (hD : DecAny w0) (w : World) (hw : Ext w0 w) (S S2 : BS) (u a0 a1 a2 vv ov av a6 : Value) (v : V) (l : List Ac) (hv : VAt w S u v) (hsv : SV v) (htx : VTx 40 v) (hvz : v.size ≤ 2000) (hl : Sl EAc w S2 av l) (hwf : ∀ a ∈ l, Wfa a)
  (h0 : ∃ k, a0 = .int .u8 k) (h1 : ∃ k, a1 = .int .u32 k) (h2 : ∃ k, a2 = .int .u32 k) (h3 : ∃ A n c, vv = .slice A n c) (h4 : ∃ A n c, ov = .slice A n c) (h6 : ∃ b, a6 = .bool b) :
  Calls Tryd.prog 38 #[u, .agg #[a0, a1, a2, vv, ov, av, a6]] w (AimTo v w) := by
 obtain ⟨k0, rfl⟩ := h0
 obtain ⟨k1, rfl⟩ := h1
 obtain ⟨k2, rfl⟩ := h2
 obtain ⟨A3, n3, c3, rfl⟩ := h3
 obtain ⟨A4, n4, c4, rfl⟩ := h4
 obtain ⟨b6, rfl⟩ := h6
 obtain ⟨l1, o1, rfl, q1, q2⟩ := hv
 obtain ⟨B1, d1, rfl, _⟩ := q1.shape
 obtain ⟨B2, d2, rfl, _⟩ := q2.shape
 obtain ⟨A5, c5, rfl, _⟩ := hl.shape
 obtain ⟨W, hW⟩ : ∃ W, (w.alloc (.cells (vC v B1 d1 B2 d2) TVAL)).alloc (.cells #[.int .u8 k0, .int .u32 k1, .int .u32 k2, .slice A3 n3 c3, .slice A4 n4 c4, .slice A5 l.length c5, .bool b6] TREC) = W := ⟨_, rfl⟩
 have hE : Ext w W := by rw [← hW]; exact ((Keep.refl _ _).alloc _).alloc _
 have hb0 : Blk W w.heap.size TVAL (vC v B1 d1 B2 d2) := by rw [← hW]; exact (Blk.new _ _ _).alloc _
 have hb1 : Blk W (w.heap.size + 1) TREC #[.int .u8 k0, .int .u32 k1, .int .u32 k2, .slice A3 n3 c3, .slice A4 n4 c4, .slice A5 l.length c5, .bool b6] := by
  have := Blk.new (w.alloc (.cells (vC v B1 d1 B2 d2) TVAL)) TREC #[.int .u8 k0, .int .u32 k1, .int .u32 k2, .slice A3 n3 c3, .slice A4 n4 c4, .slice A5 l.length c5, .bool b6]
  rw [World.size_alloc, hW] at this
  exact this
 obtain ⟨y0, y1, y2, y3, y4⟩ := blk5 hb0
 have x5 := hb1.cell 5
 simp at x5
 have HE := hid hE
 have HV := hid (show VAt W S (.agg (vC v B1 d1 B2 d2)) v from ⟨_, _, rfl, q1.ext EVal.ok hE, q2.ext EField.ok hE⟩)
 have HL := hid (hl.ext EAc.ok hE)
 have HVA := hid hva
 have HD := hid hD
 have HW := hid (hw.ext hE)
 have HSV := hid hsv
 have HTX := hid htx
 have HVZ := hid hvz
 have HWF := hid hwf
 clear q1 q2 hl hb0 hb1 hE hva hD hw hsv htx hvz hwf
 go_enter Tryd.func38, Tryd.ntmps38
 go_wp2_with fail
 clear hW
 refine (aim6_big w0 HVA.out HD.out W HW.out _ _ _ _ v l HV.out HSV.out HTX.out HVZ.out HL.out HWF.out).mono ?_
 rintro e w1 ⟨u, cs, z, rfl, ho, h1, h2, h3, h4, h5, h6, h7⟩
 have HR := hid (show AimTo v w (.returned u) w1 from ⟨u, cs, z, rfl, (ho.less HE.out.size).more ECp.ok (fun k _ h => ⟨Nat.le_trans HE.out.size h.1, h.2⟩), h1, h2, HE.out.ext h3, h4, h5, h6, h7⟩)
 obtain ⟨A, c, rfl, _⟩ := ho.shape
 clear ho h1 h2 h3 h4 h5 h6 h7 y0 y1 y2 y3 y4 x5
 go_wp2
 go_ret
 exact HR.out
def FitTo (v : V) (w : World) (e : Ending) (w' : World) : Prop := ∃ c1 c2 : Int, Ext w w' ∧
 (e = .returned (.agg #[.int .u8 3, .int .u32 c1, .int .u32 c2, .int .u8 0, .int .i64 0, .string ⟨#[]⟩, .slice none 0 0, .slice none 0 0, .slice none 0 0]) ∨
  ∃ ov cs z, e = .returned (.agg #[.int .u8 2, .int .u32 c1, .int .u32 c2, .int .u8 0, .int .i64 0, .string ⟨#[]⟩, .slice none 0 0, .slice none 0 0, ov]) ∧ Sl ECp w' (fun q => q < w'.heap.size) ov cs ∧ cs.length ≤ 20 ∧ (∀ c ∈ cs, Fit5 c) ∧ ActsTo v cs z ∧ SV z ∧ VTx 860 z ∧ z.size ≤ 8100)
theorem fits_ok (w0 : World) (hva : ValAny w0) (hD : DecAny w0) (w : World) (hw : Ext w0 w) (S S2 : BS) (u ru : Value) (v : V) (r : Rc) (hv : VAt w S u v) (hsv : SV v) (htx : VTx 40 v) (hvz : v.size ≤ 2000) (hr : RcAt w S2 ru r) (hwf : ∀ a ∈ r.acts, Wfa a) :
  Calls Tryd.prog 19 #[u, .bool true, ru] w (FitTo v w) := by
 obtain ⟨l1, o1, rfl, q1, q2⟩ := hv
 obtain ⟨B1, d1, rfl, _⟩ := q1.shape
 obtain ⟨B2, d2, rfl, _⟩ := q2.shape
 obtain ⟨vv, ov, av, rfl, h1, h2, h3⟩ := hr
 obtain ⟨A3, c3, rfl, _⟩ := h1.shape
 obtain ⟨A4, c4, rfl, _⟩ := h2.shape
 obtain ⟨A5, c5, rfl, _⟩ := h3.shape
 obtain ⟨W, hW⟩ : ∃ W, ((w.alloc (.cells (vC v B1 d1 B2 d2) TVAL)).alloc (.cells (rcCells r (.slice A3 r.v.length c3) (.slice A4 r.op.length c4) (.slice A5 r.acts.length c5)) TREC)).alloc (.cells #[.int .u8 0, .int .u32 0, .int .u32 0, .int .u8 0, .int .i64 0, .string ⟨#[]⟩, .slice none 0 0, .slice none 0 0, .slice none 0 0] TENT) = W := ⟨_, rfl⟩
 have hE : Ext w W := by rw [← hW]; exact (((Keep.refl _ _).alloc _).alloc _).alloc _
 have hb0 : Blk W w.heap.size TVAL (vC v B1 d1 B2 d2) := by rw [← hW]; exact ((Blk.new _ _ _).alloc _).alloc _
 have hb1 : Blk W (w.heap.size + 1) TREC (rcCells r (.slice A3 r.v.length c3) (.slice A4 r.op.length c4) (.slice A5 r.acts.length c5)) := by
  have := (Blk.new (w.alloc (.cells (vC v B1 d1 B2 d2) TVAL)) TREC (rcCells r (.slice A3 r.v.length c3) (.slice A4 r.op.length c4) (.slice A5 r.acts.length c5))).alloc (.cells #[.int .u8 0, .int .u32 0, .int .u32 0, .int .u8 0, .int .i64 0, .string ⟨#[]⟩, .slice none 0 0, .slice none 0 0, .slice none 0 0] TENT)
  rw [World.size_alloc, hW] at this
  exact this
 have hb2 : Blk W (w.heap.size + 1 + 1) TENT #[.int .u8 0, .int .u32 0, .int .u32 0, .int .u8 0, .int .i64 0, .string ⟨#[]⟩, .slice none 0 0, .slice none 0 0, .slice none 0 0] := by
  have := Blk.new ((w.alloc (.cells (vC v B1 d1 B2 d2) TVAL)).alloc (.cells (rcCells r (.slice A3 r.v.length c3) (.slice A4 r.op.length c4) (.slice A5 r.acts.length c5)) TREC)) TENT #[.int .u8 0, .int .u32 0, .int .u32 0, .int .u8 0, .int .i64 0, .string ⟨#[]⟩, .slice none 0 0, .slice none 0 0, .slice none 0 0]
  rw [World.size_alloc, World.size_alloc, hW] at this
  exact this
 have hsz : W.heap.size = w.heap.size + 1 + 1 + 1 := by rw [← hW]; simp
 have HE := hid hE
 have HB0 := hid hb0
 have HB1 := hid hb1
 have HB2 := hid hb2
 have HSZ := hid hsz
 have HV := hid (show VAt W (fun q => q < w.heap.size) (.agg (vC v B1 d1 B2 d2)) v from ⟨_, _, rfl, (q1.more EVal.ok fun k h _ => h).ext EVal.ok hE, (q2.more EField.ok fun k h _ => h).ext EField.ok hE⟩)
 have HL := hid ((h3.more (S' := fun q => q < w.heap.size) EAc.ok fun k h _ => h).ext EAc.ok hE)
 have HVA := hid hva
 have HD := hid hD
 have HW := hid (hw.ext hE)
 have HSV := hid hsv
 have HTX := hid htx
 have HVZ := hid hvz
 have HWF := hid hwf
 obtain ⟨y0, y1, y2, y3, y4⟩ := blk5 hb0
 obtain ⟨x0, x1, x2, x3, x4, x5, x6⟩ := sq7 hb1
 have hA : Ext W (W.alloc (.cells #[.int .u8 1, .int .u32 r.src, .int .u32 r.seq, .int .u8 0, .int .i64 0, .string ⟨#[]⟩, .slice none 0 0, .slice none 0 0, .slice none 0 0] TENT)) := (Keep.refl _ _).alloc _
 have HE1 := hid (hE.ext hA)
 have HB01 := hid (hb0.keep hA id)
 have HB11 := hid (hb1.keep hA id)
 have HB21 := hid (hb2.keep hA id)
 have hb31 := (Blk.new W TENT #[.int .u8 1, .int .u32 r.src, .int .u32 r.seq, .int .u8 0, .int .i64 0, .string ⟨#[]⟩, .slice none 0 0, .slice none 0 0, .slice none 0 0])
 rw [hsz] at hb31
 have HB31 := hid hb31
 have HV1 := hid (HV.out.ext hA)
 have HL1 := hid (HL.out.ext EAc.ok hA)
 have HWW := hid hw
 clear q1 q2 h1 h2 h3 hb0 hb1 hb2 hb31 hE hva hD hw hsv htx hvz hwf hA HB0 HB1 HB2 HV HL HE HW
 go_enter Tryd.func19, Tryd.ntmps19
 go_upto_region 5 with fail
 clear hW hsz HSZ x0 x1 x2 x3 x4 x5 x6 y0 y1 y2 y3 y4
 change Code.wp _ _ _ _ (W.alloc (.cells #[.int .u8 1, .int .u32 r.src, .int .u32 r.seq, .int .u8 0, .int .i64 0, .string ⟨#[]⟩, .slice none 0 0, .slice none 0 0, .slice none 0 0] TENT))
 generalize (W.alloc (.cells #[.int .u8 1, .int .u32 r.src, .int .u32 r.seq, .int .u8 0, .int .i64 0, .string ⟨#[]⟩, .slice none 0 0, .slice none 0 0, .slice none 0 0] TENT)) = W1 at *
 have x0 := HB11.out.cell 0
 have f1 := HB11.out.frozen
 have f2 := HB21.out.frozen
 have f3 := HB31.out.frozen
 obtain ⟨z0, z1, z2, z3, z4, z5, z6, z7, z8⟩ := blk9 HB31.out
 obtain ⟨y0, y1, y2, y3, y4, y5, y6, y7, y8⟩ := blk9 HB21.out
 cases hk : ((r.kind.toNat : Int) % 8 == 3) with
 | true =>
  go_wp2_with fail
  obtain ⟨WZ, hWZ⟩ : ∃ WZ, put9 (W1.setCell ⟨w.heap.size + 1 + 1 + 1, 0, none⟩ (.int .u8 3)) (w.heap.size + 1 + 1) (.int .u8 3) (.int .u32 r.src) (.int .u32 r.seq) (.int .u8 0) (.int .i64 0) (.string ⟨#[]⟩) (.slice none 0 0) (.slice none 0 0) (.slice none 0 0) = WZ := ⟨_, rfl⟩
  have hs : Keep (· = w.heap.size + 1 + 1 + 1) W1 (W1.setCell ⟨w.heap.size + 1 + 1 + 1, 0, none⟩ (.int .u8 3)) := (Keep.refl _ _).set1 0 _
  have hbz := put9_blk (HB21.out.keep hs (by omega)) (.int .u8 3) (.int .u32 r.src) (.int .u32 r.seq) (.int .u8 0) (.int .i64 0) (.string ⟨#[]⟩) (.slice none 0 0) (.slice none 0 0) (.slice none 0 0)
  have hkz := put9_keep (W1.setCell ⟨w.heap.size + 1 + 1 + 1, 0, none⟩ (.int .u8 3)) (w.heap.size + 1 + 1) (.int .u8 3) (.int .u32 r.src) (.int .u32 r.seq) (.int .u8 0) (.int .i64 0) (.string ⟨#[]⟩) (.slice none 0 0) (.slice none 0 0) (.slice none 0 0)
  rw [hWZ] at hbz hkz
  have hKZ : Ext w WZ := (HE1.out.trans hs fun k h1 h2 => by omega).trans hkz fun k h1 h2 => by omega
  obtain ⟨u0, u1, u2, u3, u4, u5, u6, u7, u8⟩ := blk9 hbz
  change bodyPost _ _ _ _ _ (put9 (W1.setCell ⟨w.heap.size + 1 + 1 + 1, 0, none⟩ (.int .u8 3)) (w.heap.size + 1 + 1) (.int .u8 3) (.int .u32 r.src) (.int .u32 r.seq) (.int .u8 0) (.int .i64 0) (.string ⟨#[]⟩) (.slice none 0 0) (.slice none 0 0) (.slice none 0 0))
  rw [hWZ]
  refine bodyPost_ret (v := .agg #[.int .u8 3, .int .u32 r.src, .int .u32 r.seq, .int .u8 0, .int .i64 0, .string ⟨#[]⟩, .slice none 0 0, .slice none 0 0, .slice none 0 0]) (by simp [results, Tryd.results19, go_sem, u0, u1, u2, u3, u4, u5, u6, u7, u8]) rfl ?_
  exact ⟨r.src, r.seq, hKZ, .inl rfl⟩
 | false =>
  obtain ⟨v0, v1, v2, v3, v4⟩ := blk5 HB01.out
  have x1 := HB11.out.cell 1
  have x2 := HB11.out.cell 2
  have x3 := HB11.out.cell 3
  have x4 := HB11.out.cell 4
  have x5 := HB11.out.cell 5
  have x6 := HB11.out.cell 6
  simp at x1 x2 x3 x4 x5 x6
  go_wp2_with fail
  obtain ⟨W2, hW2⟩ : ∃ W2, ((W1.setCell ⟨w.heap.size + 1 + 1 + 1, 0, none⟩ (.int .u8 2)).setCell ⟨w.heap.size + 1, 6, none⟩ (.bool true)).setCell ⟨w.heap.size + 1, 0, none⟩ (.int .u8 1) = W2 := ⟨_, rfl⟩
  have hk2 : Keep (fun k => k = w.heap.size + 1 + 1 + 1 ∨ k = w.heap.size + 1) W1 W2 := by
   rw [← hW2]
   exact (((Keep.refl _ W1).setAt (b := w.heap.size + 1 + 1 + 1) (fun _ => .inl rfl) 0 _).setAt (b := w.heap.size + 1) (fun _ => .inr rfl) 6 _).setAt (b := w.heap.size + 1) (fun _ => .inr rfl) 0 _
  have hb2 : Blk W2 (w.heap.size + 1 + 1 + 1) TENT #[.int .u8 2, .int .u32 r.src, .int .u32 r.seq, .int .u8 0, .int .i64 0, .string ⟨#[]⟩, .slice none 0 0, .slice none 0 0, .slice none 0 0] := by
   rw [← hW2]
   exact ((HB31.out.set_ 0 (.int .u8 2)).far (fun e => by have e : w.heap.size + 1 + 1 + 1 = w.heap.size + 1 := e; omega) _).far (fun e => by have e : w.heap.size + 1 + 1 + 1 = w.heap.size + 1 := e; omega) _
  rw [hW2]
  have HV2 := hid (HV1.out.keep hk2 fun k h e => by omega)
  have HL2 := hid (HL1.out.keep EAc.ok hk2 fun k h e => by omega)
  have HW2 := hid (show Ext w W2 from HE1.out.trans hk2 fun k h1 h2 => by omega)
  have HR2 := hid (HB21.out.keep hk2 (by omega))
  have HB2 := hid hb2
  have HSZ2 := hid (show w.heap.size + 1 + 1 + 1 < W2.heap.size from hb2.lt)
  clear hW2 hk2 hb2 x0 x1 x2 x3 x4 x5 x6 v0 v1 v2 v3 v4 z0 z1 z2 z3 z4 z5 z6 z7 z8 y0 y1 y2 y3 y4 y5 y6 y7 y8 f1 f2 f3
  refine (aims_ok w0 HVA.out HD.out W2 (HWW.out.ext HW2.out) _ _ _ _ _ _ _ _ _ _ v r.acts HV2.out HSV.out HTX.out HVZ.out HL2.out HWF.out ⟨_, rfl⟩ ⟨_, rfl⟩ ⟨_, rfl⟩ ⟨_, _, _, rfl⟩ ⟨_, _, _, rfl⟩ ⟨_, rfl⟩).mono ?_
  rintro e w3 ⟨u, cs, z, rfl, ho, h1, h2, h3, h4, h5, h6, h7⟩
  obtain ⟨A, c, rfl, _⟩ := ho.shape
  have HO := hid ho
  have HB3 := hid (HB2.out.keep h3 id)
  have HR3 := hid (HR2.out.keep h3 id)
  have HE3 := hid (HW2.out.ext h3)
  have HSZ3 := hid h3.size
  have HFIN := hid (And.intro h1 (And.intro h2 (And.intro h4 (And.intro h5 (And.intro h6 h7)))))
  obtain ⟨n, hn⟩ : ∃ n, cs.length = n := ⟨_, rfl⟩
  rw [hn] at HO
  have HN := hid hn
  rw [hn]
  clear ho h1 h2 h3 h4 h5 h6 h7 hn
  obtain ⟨z0, z1, z2, z3, z4, z5, z6, z7, z8⟩ := blk9 HB3.out
  obtain ⟨y0, y1, y2, y3, y4, y5, y6, y7, y8⟩ := blk9 HR3.out
  have f2 := HR3.out.frozen
  have f3 := HB3.out.frozen
  go_wp2_with fail
  obtain ⟨WZ, hWZ⟩ : ∃ WZ, put9 (w3.setCell ⟨w.heap.size + 1 + 1 + 1, 8, none⟩ (.slice A n c)) (w.heap.size + 1 + 1) (.int .u8 2) (.int .u32 r.src) (.int .u32 r.seq) (.int .u8 0) (.int .i64 0) (.string ⟨#[]⟩) (.slice none 0 0) (.slice none 0 0) (.slice A n c) = WZ := ⟨_, rfl⟩
  have hs : Keep (· = w.heap.size + 1 + 1 + 1) w3 (w3.setCell ⟨w.heap.size + 1 + 1 + 1, 8, none⟩ (.slice A n c)) := (Keep.refl _ _).set1 8 _
  have hbz := put9_blk (HR3.out.keep hs (by omega)) (.int .u8 2) (.int .u32 r.src) (.int .u32 r.seq) (.int .u8 0) (.int .i64 0) (.string ⟨#[]⟩) (.slice none 0 0) (.slice none 0 0) (.slice A n c)
  have hkz := put9_keep (w3.setCell ⟨w.heap.size + 1 + 1 + 1, 8, none⟩ (.slice A n c)) (w.heap.size + 1 + 1) (.int .u8 2) (.int .u32 r.src) (.int .u32 r.seq) (.int .u8 0) (.int .i64 0) (.string ⟨#[]⟩) (.slice none 0 0) (.slice none 0 0) (.slice A n c)
  rw [hWZ] at hbz hkz
  have hKW : Keep (fun k => k = w.heap.size + 1 + 1 + 1 ∨ k = w.heap.size + 1 + 1) w3 WZ := (hs.mono fun _ _ h => .inl h).trans hkz fun k h1 h2 => .inr h2
  have hKZ : Ext w WZ := HE3.out.trans hKW fun k h1 h2 => by omega
  obtain ⟨u0, u1, u2, u3, u4, u5, u6, u7, u8⟩ := blk9 hbz
  change bodyPost _ _ _ _ _ (put9 (w3.setCell ⟨w.heap.size + 1 + 1 + 1, 8, none⟩ (.slice A n c)) (w.heap.size + 1 + 1) (.int .u8 2) (.int .u32 r.src) (.int .u32 r.seq) (.int .u8 0) (.int .i64 0) (.string ⟨#[]⟩) (.slice none 0 0) (.slice none 0 0) (.slice A n c))
  rw [hWZ]
  refine bodyPost_ret (v := .agg #[.int .u8 2, .int .u32 r.src, .int .u32 r.seq, .int .u8 0, .int .i64 0, .string ⟨#[]⟩, .slice none 0 0, .slice none 0 0, .slice A n c]) (by simp [results, Tryd.results19, go_sem, u0, u1, u2, u3, u4, u5, u6, u7, u8]) rfl ?_
  refine ⟨r.src, r.seq, hKZ, .inr ⟨_, cs, z, rfl, ?_, HFIN.out.1, HFIN.out.2.1, HFIN.out.2.2.1, HFIN.out.2.2.2.1, HFIN.out.2.2.2.2.1, HFIN.out.2.2.2.2.2⟩⟩
  have hlo := HSZ2.out
  exact ((HO.out.keep ECp.ok hKW (fun q h e => by have := h.1; omega) (fun q h e => by have := (HO.out.lt h).1; omega)).sl ECp.ok).more ECp.ok fun q h _ => h
end Go.Proofs.YtggkidnlmaindaaDoor
