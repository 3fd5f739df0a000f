/- RefGetN: laid together. -/
import Derived.Test.YtioplgfopillnaaDoorMeB13
set_option linter.unusedSimpArgs false
set_option linter.unusedVariables false
set_option maxHeartbeats 25600000
set_option maxRecDepth 20000
namespace Go.Proofs.YtioplgfopillnaaDoor
open Go.RowKit
def RGetN (v : V) (p : List St) (w : World) (e : Ending) (w' : World) : Prop := (match getV v p with
 | none => e = .returned (.tuple #[ZVAL, .int .i64 30])
 | some y => ∃ u, e = .returned (.tuple #[u, .int .i64 0]) ∧ VAt w' (fun q => w.heap.size ≤ q) u y) ∧ Ext w w'
theorem rget_new (w : World) (u pv : Value) (v : V) (p : List St) (S S' : BS) (hu : VAt w S u v) (hp : Sl ESt w S' pv p) (hsz : v.size ≤ 1000000) :
  Calls Tryd.prog 41 #[u, pv] w (RGetN v p w) := by
 obtain ⟨lv, ov, rfl, hl, ho⟩ := hu.cut
 obtain ⟨A, c, rfl, _, _⟩ := hl.shape
 obtain ⟨A', c', rfl, _, _⟩ := ho.shape
 obtain ⟨Ap, cp, rfl, hpl, hpm⟩ := hp.shape
 unfold maxLen at hpm
 obtain ⟨w1, hw1⟩ : ∃ w1, w1 = w.alloc (.cells #[U8 v.kind, .int .i64 v.n, .string v.s, .slice A v.l.length c, .slice A' v.o.length c'] TVAL) := ⟨_, rfl⟩
 obtain ⟨w3, hw3⟩ : ∃ w3, w3 = w1.alloc (.cells #[.int .u8 0, .int .i64 0, .string ⟨#[]⟩, .slice none 0 0, .slice none 0 0] TVAL) := ⟨_, rfl⟩
 have hz1 : w1.heap.size = w.heap.size + 1 := by rw [hw1]; simp
 have hE1 : Ext w w1 := by rw [hw1]; exact (Keep.refl _ _).alloc _
 have hE3 : Ext w1 w3 := by rw [hw3]; exact (Keep.refl _ _).alloc _
 have hb1 : Blk w3 w.heap.size TVAL #[U8 v.kind, .int .i64 v.n, .string v.s, .slice A v.l.length c, .slice A' v.o.length c'] := by
  have := Blk.new w TVAL #[U8 v.kind, .int .i64 v.n, .string v.s, .slice A v.l.length c, .slice A' v.o.length c']
  rw [← hw1] at this
  exact this.keep hE3 id
 have hb3 : Blk w3 (w.heap.size + 1) TVAL #[.int .u8 0, .int .i64 0, .string ⟨#[]⟩, .slice none 0 0, .slice none 0 0] := by
  have := Blk.new w1 TVAL #[.int .u8 0, .int .i64 0, .string ⟨#[]⟩, .slice none 0 0, .slice none 0 0]
  rwa [← hw3, hz1] at this
 have hE : Ext w w3 := hE1.ext hE3
 have HE := hid hE
 have HB1 := hid hb1
 have HB3 := hid hb3
 have HV := hid (show VAt w3 (fun q => q < w.heap.size) (.agg #[U8 v.kind, .int .i64 v.n, .string v.s, .slice A v.l.length c, .slice A' v.o.length c']) v from (VAt.ext ⟨_, _, rfl, hl, ho⟩ hE).more fun q _ h => h.2)
 have HP := hid ((hp.more ESt.ok (S' := fun q => q < w.heap.size) (fun q h _ => h)).ext ESt.ok hE)
 have HSZ := hid hsz
 have e3 : w3 = (w.alloc (.cells #[U8 v.kind, .int .i64 v.n, .string v.s, .slice A v.l.length c, .slice A' v.o.length c'] TVAL)).alloc (.cells #[.int .u8 0, .int .i64 0, .string ⟨#[]⟩, .slice none 0 0, .slice none 0 0] TVAL) := by rw [hw3, hw1]
 have hz3 : w.heap.size + 1 < w3.heap.size := hb3.lt
 clear hw1 hw3 hE1 hE3 hb1 hb3 hz1 hE hl ho hp hsz hu w1
 go_enter Tryd.func41, Tryd.ntmps41
 go_wp2_with fail
 rw [← e3]
 clear e3
 go_loopw [6, 7, 8, 9] (fun i _ _ _ wr => ∃ (j : Nat) (y : V) (lv ov : Value), i = .int .i64 j ∧ j ≤ p.length ∧ getV v (p.take j) = some y ∧ Blk wr w.heap.size TVAL #[U8 y.kind, .int .i64 y.n, .string y.s, lv, ov] ∧
  VAt wr (fun q => q < w.heap.size) (.agg #[U8 y.kind, .int .i64 y.n, .string y.s, lv, ov]) y ∧ Keep (· = w.heap.size) w3 wr) (fun i _ _ _ _ => p.length - (intOf i).toNat)
 case atStart => exact ⟨0, v, _, _, rfl, by omega, rfl, HB1.out, HV.out, Keep.refl _ _⟩
 case round =>
  obtain ⟨j, y, lv, ov, rfl, hj, hg, hb, hva, hkr⟩ := hrel
  obtain ⟨lv', ov', e, hxl, hxo⟩ := hva
  obtain ⟨e1, e2⟩ : lv = lv' ∧ ov = ov' := by simp at e; exact e
  subst e1 e2
  clear e
  obtain ⟨A2, c2, rfl, h2l, h2m⟩ := hxl.shape
  obtain ⟨A3, c3, rfl, h3l, h3m⟩ := hxo.shape
  have HY := hid (show VAt wr (fun q => q < w.heap.size) (.agg #[U8 y.kind, .int .i64 y.n, .string y.s, .slice A2 y.l.length c2, .slice A3 y.o.length c3]) y from ⟨_, _, rfl, hxl, hxo⟩)
  have HG := hid hg
  have HK := hid hkr
  have HBY := hid hb
  have hkz := hkr.size
  have HBR := hid (HB3.out.keep hkr (by omega))
  have HPr := hid (HP.out.keep ESt.ok hkr fun q hq e => by omega)
  obtain ⟨q0, q1, q2, q3, q4⟩ := blk5 hb
  clear hxl hxo hg hkr hb
  by_cases hlt : j < p.length
  ·have hltX : (j : Int) < p.length := by omega
   obtain ⟨bp, op, cs, rfl, _, _, hrd, hcell⟩ := HPr.out.at_ ESt.ok hlt
   obtain ⟨z, idx, err, hcall, hst⟩ := step_o y p[j]
   have HN := hid (fun h => hst.none hlt HG.out h)
   have HSO := hid (fun h => hst.some hlt HG.out h)
   have HCALL := hid hcall
   generalize p[j] = s at *
   obtain rfl : cs = [.bool s.list, .int .i64 s.i, .string s.key] := hrd
   have s0 := hcell 0 _ rfl
   have s1 := hcell 1 _ rfl
   have s2 := hcell 2 _ rfl
   have hz : ESt.size = 3 := rfl
   simp only [hz, Nat.add_zero] at s0 s1 s2
   clear hz hcell hcall hst
   go_wp2_with fail
   refine H.wp_region_frees [8, 9] [1, 2, 3] [0, 4, 5, 6, 7, 8, 9, 10] [11] [12, 13]
    (H.specOf [(5, StepO (fun q => q < w.heap.size) z idx err), (10, BoxQ wr.heap.size)])
    (fun w' => Ext wr w') ?_ (H.stableC_ext _) (by kernel_rfl) (by intro k hk; simp at hk; rcases hk with rfl | rfl <;> rfl) (by kernel_rfl) (Keep.drew (Keep.refl _ _)) ?_
   ·exact H.stable_cons (fun n m v w w' h he => h.ext he) (H.stable_cons (fun n m v w w' h he => h.ext he) H.stable_nil)
   iterate 3
    (try simp only [Act.put, sqa, sqb, sqc])
    refine H.pure_run rfl rfl ?_
    apply Exists.intro
    refine ⟨fun w' => ?_, ?_⟩
    ·go_simp
     rfl
   refine H.pure_nil ?_
   iterate 2
    (try simp only [Act.put, sqa, sqb, sqc])
    refine H.growP_run rfl rfl rfl ?_
    apply Exists.intro
    refine ⟨fun w' hC hK => ?_, ?_⟩
    ·have q0 := sqw hC q0
     have q1 := sqw hC q1
     have q2 := sqw hC q2
     have q3 := sqw hC q3
     have q4 := sqw hC q4
     have s0 := sqw hC s0
     have s1 := sqw hC s1
     have s2 := sqw hC s2
     go_simp
     rfl
   (try simp only [Act.put, sqa, sqb, sqc])
   refine H.growP_eff rfl rfl rfl (fun w' hC hK => ?_) (fun v5 nv5 mv5 hv5 => ?_)
   ·have hcall := HCALL.out w' _ _ (HY.out.ext hC)
    unfold H.growAt
    go_simp
    exact H.grow_call hcall
   obtain ⟨_, _, Az1, cz1, Az2, cz2, rfl, _⟩ := hv5.head
   iterate 4
    (try simp only [Act.put, sqa, sqb, sqc])
    refine H.growP_run rfl rfl rfl ?_
    apply Exists.intro
    refine ⟨fun w' hC hK => ?_, ?_⟩
    ·go_simp
     rfl
   (try simp only [Act.put, sqa, sqb, sqc])
   refine H.growP_eff rfl rfl rfl (fun w' hC hK => ?_) (fun v10 nv10 mv10 hv10 => ?_)
   ·unfold H.growAt
    go_simp
    exact ⟨(Keep.refl _ _).alloc _, hC.size, rfl, by simp, Blk.new _ _ _⟩
   obtain ⟨_, _, hn, rfl, hnm, _⟩ := hv10.head
   refine H.growP_nil fun w7 hC hK => ?_
   have hbox : BoxQ wr.heap.size nv10 mv10 (.pointer (some ⟨nv10, 0, none⟩)) w7 := (hK.1 (10, _) List.mem_cons_self).1
   have hout : StepO (fun q => q < w.heap.size) z idx err nv5 mv5 (.tuple #[.agg #[U8 z.kind, .int .i64 z.n, .string z.s, .slice Az1 z.l.length cz1, .slice Az2 z.o.length cz2], .int .i64 idx, .int .i64 err]) w7 := (hK.1 (5, _) (List.mem_cons_of_mem _ List.mem_cons_self)).1
   obtain ⟨bq0, bq1, bq2, bq3, bq4⟩ := blk5 hbox.2.2.2
   obtain ⟨bf0, bf1, bf2, bf3, bf4⟩ := sqf5 hbox.2.2.2
   have HF := hid (StepO.fill (fun q (hq : q < w.heap.size) => by omega) hC hbox hout)
   clear hbox hout hK hn hnm q0 q1 q2 q3 q4 s0 s1 s2 hv5 hv10 hC
   change wpList _ _ _ (_ :: []) _ _
   (try simp only [Act.put, sqa, sqb, sqc])
   go_wp2_with fail
   refine H.Then.normal ?_
   iterate 2
    (try simp only [Act.put, sqa, sqb, sqc])
    refine H.pure_run rfl rfl ?_
    apply Exists.intro
    refine ⟨fun w' => ?_, ?_⟩
    ·go_simp
     rfl
   refine H.pure_nil ?_
   refine NoPanic.normal ?_
   (try simp only [Act.put, sqa, sqb, sqc])
   obtain ⟨hE8, hB8, hV8⟩ := HF.out
   clear HF bq0 bq1 bq2 bq3 bq4 bf0 bf1 bf2 bf3 bf4
   change Exit.then _ _ Exit.normal _ (fillW w7 nv10 (U8 z.kind) (.int .i64 z.n) (.string z.s) (.slice Az1 z.l.length cz1) (.slice Az2 z.o.length cz2))
   generalize fillW w7 nv10 (U8 z.kind) (.int .i64 z.n) (.string z.s) (.slice Az1 z.l.length cz1) (.slice Az2 z.o.length cz2) = w8 at *
   have HE8 := hid (HK.out.trans hE8 fun q _ h => h.elim)
   have HB8 := hid hB8
   have HV8 := hid hV8
   have hby := HBY.out.keep hE8 id
   have hbr := HBR.out.keep hE8 id
   clear hE8 hB8 hV8
   by_cases herr : err = 0
   ·have HD := hid (HSO.out herr)
    have herrX : (err != 0) = false := by simp [herr]
    clear herr
    obtain ⟨q0, q1, q2, q3, q4⟩ := blk5 hby
    obtain ⟨f0, f1, f2, f3, f4⟩ := sqf5 hby
    obtain ⟨z0, z1, z2, z3, z4⟩ := blk5 HB8.out
    have hk := set5_keep w8 w.heap.size 0 (U8 z.kind) (.int .i64 z.n) (.string z.s) (.slice Az1 z.l.length cz1) (.slice Az2 z.o.length cz2)
    have HR := hid (And.intro (show Blk (fillW w8 w.heap.size (U8 z.kind) (.int .i64 z.n) (.string z.s) (.slice Az1 z.l.length cz1) (.slice Az2 z.o.length cz2)) w.heap.size TVAL #[U8 z.kind, .int .i64 z.n, .string z.s, .slice Az1 z.l.length cz1, .slice Az2 z.o.length cz2] from set5_to hby rfl _ _ _ _ _)
     (And.intro (show VAt (fillW w8 w.heap.size (U8 z.kind) (.int .i64 z.n) (.string z.s) (.slice Az1 z.l.length cz1) (.slice Az2 z.o.length cz2)) (fun q => q < w.heap.size) (.agg #[U8 z.kind, .int .i64 z.n, .string z.s, .slice Az1 z.l.length cz1, .slice Az2 z.o.length cz2]) z from HV8.out.keep hk fun q hq e => by omega)
      (show Keep (· = w.heap.size) w3 (fillW w8 w.heap.size (U8 z.kind) (.int .i64 z.n) (.string z.s) (.slice Az1 z.l.length cz1) (.slice Az2 z.o.length cz2)) from HE8.out.trans hk fun q _ h => h)))
    clear hby hbr hk
    go_wp2
    go_roundw
    case rel => exact ⟨j + 1, z, _, _, by go_num, by omega, HD.out, HR.out⟩
    case measure => simp [intOf]; omega
   ·have HD := hid (HN.out herr)
    have herrX : (err != 0) = true := by simpa using herr
    clear herr
    obtain ⟨r0, r1, r2, r3, r4⟩ := blk5 hbr
    obtain ⟨f0, f1, f2, f3, f4⟩ := sqf5 hbr
    have HT := hid (ret5 (HE.out.trans HE8.out fun q hq e => by omega) (by omega) hbr (.int .u8 0) (.int .i64 0) (.string ⟨#[]⟩) (.slice none 0 0) (.slice none 0 0))
    clear hby hbr
    go_wp2
    obtain ⟨hE5, t0, t1, t2, t3, t4⟩ := HT.out
    change bodyPost _ _ _ _ _ (fillW w8 (w.heap.size + 1) (.int .u8 0) (.int .i64 0) (.string ⟨#[]⟩) (.slice none 0 0) (.slice none 0 0))
    generalize fillW w8 (w.heap.size + 1) (.int .u8 0) (.int .i64 0) (.string ⟨#[]⟩) (.slice none 0 0) (.slice none 0 0) = w9 at *
    refine bodyPost_ret (v := .tuple #[ZVAL, .int .i64 err]) (by simp [results, Tryd.results41, go_sem, t0, t1, t2, t3, t4]) rfl ?_
    obtain ⟨hd1, hd2⟩ := HD.out
    unfold RGetN
    rw [hd1, hd2]
    exact ⟨rfl, hE5⟩
  ·obtain rfl : j = p.length := by omega
   have HGF := hid (show getV v p = some y from by have := HG.out; rwa [List.take_length] at this)
   have hys : y.size ≤ 1000000 := Nat.le_trans (getV_size _ _ _ HGF.out) HSZ.out
   have HCP := hid (rcopy_any _ y (Nat.le_refl _) hys _ _ wr HY.out)
   have HEr := hid (HE.out.trans HK.out fun q hq e => by omega)
   clear HG
   go_wp2_with fail
   refine HCP.out.mono ?_
   rintro e w4 h
   obtain ⟨u, rfl, hva, hE4⟩ := h.at_
   obtain ⟨B1, e1, B2, e2, rfl, hva⟩ := hva.form
   have hbr := HBR.out.keep hE4 id
   obtain ⟨r0, r1, r2, r3, r4⟩ := blk5 hbr
   obtain ⟨f0, f1, f2, f3, f4⟩ := sqf5 hbr
   have hk := set5_keep w4 (w.heap.size + 1) 0 (U8 y.kind) (.int .i64 y.n) (.string y.s) (.slice B1 y.l.length e1) (.slice B2 y.o.length e2)
   have HT := hid (ret5 (HEr.out.ext hE4) (by omega) hbr (U8 y.kind) (.int .i64 y.n) (.string y.s) (.slice B1 y.l.length e1) (.slice B2 y.o.length e2))
   have HVF := hid (show VAt (fillW w4 (w.heap.size + 1) (U8 y.kind) (.int .i64 y.n) (.string y.s) (.slice B1 y.l.length e1) (.slice B2 y.o.length e2)) (fun q => w.heap.size ≤ q) (.agg #[U8 y.kind, .int .i64 y.n, .string y.s, .slice B1 y.l.length e1, .slice B2 y.o.length e2]) y from (hva.keep hk fun q hq e => by omega).more fun q _ h => by omega)
   clear hva hE4 hbr hk h q0 q1 q2 q3 q4
   go_wp2
   obtain ⟨hE5, t0, t1, t2, t3, t4⟩ := HT.out
   change bodyPost _ _ _ _ _ (fillW w4 (w.heap.size + 1) (U8 y.kind) (.int .i64 y.n) (.string y.s) (.slice B1 y.l.length e1) (.slice B2 y.o.length e2))
   generalize fillW w4 (w.heap.size + 1) (U8 y.kind) (.int .i64 y.n) (.string y.s) (.slice B1 y.l.length e1) (.slice B2 y.o.length e2) = w9 at *
   refine bodyPost_ret (v := .tuple #[.agg #[U8 y.kind, .int .i64 y.n, .string y.s, .slice B1 y.l.length e1, .slice B2 y.o.length e2], .int .i64 0]) (by simp [results, Tryd.results41, go_sem, t0, t1, t2, t3, t4]) rfl ?_
   unfold RGetN
   rw [HGF.out]
   exact ⟨⟨_, rfl, HVF.out⟩, hE5⟩
end Go.Proofs.YtioplgfopillnaaDoor
