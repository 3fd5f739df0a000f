/- AimA, OpTok, OpAct, OpSt2, RecA: laid together. -/
import Derived.Test.YtggkidnlmaindaaDoorPxB34
import Derived.Test.YtggkidnlmaindaaDoorPxB30
import Derived.Test.YtggkidnlmaindaaDoorPxB25
import Derived.Test.YtggkidnlmaindaaDoorPxB26
import Derived.Test.YtggkidnlmaindaaDoorPxB2
import Derived.Test.YtggkidnlmaindaaDoorPxB7
import Derived.Test.YtggkidnlmaindaaDoorPxB22
set_option linter.unusedSimpArgs false
set_option linter.unusedVariables false
set_option maxHeartbeats 25600000
set_option maxRecDepth 20000
namespace Go.Proofs.YtggkidnlmaindaaDoor
open Go.RowKit
def BoxC (K n m : Nat) (v : Value) (w : World) : Prop := K ≤ n ∧ m = n + 1 ∧ v = .pointer (some ⟨n, 0, none⟩) ∧ Blk w n TCMP ZCMP
theorem BoxC.ext {K n m : Nat} {v : Value} {w w' : World} (h : BoxC K n m v w) (he : Ext w w') : BoxC K n m v w' := ⟨h.1, h.2.1, h.2.2.1, h.2.2.2.keep he id⟩
def OutN (y : V) (K n m : Nat) (u : Value) (w : World) : Prop := K ≤ n ∧ ∃ (k9 : Int) (A9 : Option Addr) (m9 c9 : Nat) (key9 : ByteArray) (i9 j9 n9 vk9 vn9 : Int) (vs9 : ByteArray) (B9 : Option Addr) (p9 q9 : Nat) (D9 : Option Addr) (r9 s9 : Nat) (t9 : ByteArray) (o9 : Int),
 u = .tuple #[.agg #[.int .u8 k9, .slice A9 m9 c9, .string key9, .int .i64 i9, .int .i64 j9, .int .i64 n9, .int .u8 vk9, .int .i64 vn9, .string vs9, .slice B9 p9 q9, .slice D9 r9 s9, .string t9], .int .i64 o9] ∧ (o9 = 0 ∨ (o9 = 1 ∧ ∃ c, CAt w (fun q => n ≤ q ∧ q < m) (.agg #[.int .u8 k9, .slice A9 m9 c9, .string key9, .int .i64 i9, .int .i64 j9, .int .i64 n9, .int .u8 vk9, .int .i64 vn9, .string vs9, .slice B9 p9 q9, .slice D9 r9 s9, .string t9]) c ∧ OneOk y c))
theorem OutN.ext {y : V} {K n m : Nat} {u : Value} {w w' : World} (h : OutN y K n m u w) (he : Ext w w') : OutN y K n m u w' := by
 obtain ⟨h0, k9, A9, m9, c9, key9, i9, j9, n9, vk9, vn9, vs9, B9, p9, q9, D9, r9, s9, t9, o9, h1, h2⟩ := h
 exact ⟨h0, k9, A9, m9, c9, key9, i9, j9, n9, vk9, vn9, vs9, B9, p9, q9, D9, r9, s9, t9, o9, h1, h2.imp id fun h => ⟨h.1, h.2.elim fun c hc => ⟨c, hc.1.ext he, hc.2⟩⟩⟩
theorem One6Is.outn {y : V} {w w' : World} {e : Ending} {K : Nat} (h : One6Is y w e w') (hK : K ≤ w.heap.size) : ∃ u, e = .returned u ∧ Ext w w' ∧ OutN y K w.heap.size w'.heap.size u w' := by
 obtain ⟨k9, A9, m9, c9, key9, i9, j9, n9, vk9, vn9, vs9, B9, p9, q9, D9, r9, s9, t9, o9, rfl, h1, hE⟩ := h.form
 exact ⟨_, rfl, hE, hK, k9, A9, m9, c9, key9, i9, j9, n9, vk9, vn9, vs9, B9, p9, q9, D9, r9, s9, t9, o9, rfl, h1.imp id fun h => ⟨h.1, h.2.elim fun c hc => ⟨c, hc.1.more (S' := fun q => w.heap.size ≤ q ∧ q < w'.heap.size) fun k h1 h2 => ⟨h2, h1⟩, hc.2⟩⟩⟩
theorem OutN.fill {y : V} {w0 w : World} {n m g k : Nat} {o : Int} {a0 a1 a2 a3 a4 a5 a6 a7 a8 a9 a10 a11 : Value} (hE : Ext w0 w) (hb : BoxC w0.heap.size g k (.pointer (some ⟨g, 0, none⟩)) w) (hv : OutN y w0.heap.size n m (.tuple #[.agg #[a0, a1, a2, a3, a4, a5, a6, a7, a8, a9, a10, a11], .int .i64 o]) w) (hap : k ≤ n ∨ m ≤ g) :
  Ext w0 (put12 w g a0 a1 a2 a3 a4 a5 a6 a7 a8 a9 a10 a11) ∧ Blk (put12 w g a0 a1 a2 a3 a4 a5 a6 a7 a8 a9 a10 a11) g TCMP #[a0, a1, a2, a3, a4, a5, a6, a7, a8, a9, a10, a11] ∧ (o = 0 ∨ (o = 1 ∧ ∃ c, CAt (put12 w g a0 a1 a2 a3 a4 a5 a6 a7 a8 a9 a10 a11) (fun q => n ≤ q ∧ q < m) (.agg #[a0, a1, a2, a3, a4, a5, a6, a7, a8, a9, a10, a11]) c ∧ OneOk y c)) := by
 have hk := put12_keep w g a0 a1 a2 a3 a4 a5 a6 a7 a8 a9 a10 a11
 refine ⟨hE.trans hk fun q hq e => by have := hb.1; omega, put12_blk hb.2.2.2 a0 a1 a2 a3 a4 a5 a6 a7 a8 a9 a10 a11, ?_⟩
 obtain ⟨_, k9, A9, m9, c9, key9, i9, j9, n9, vk9, vn9, vs9, B9, p9, q9, D9, r9, s9, t9, o9, h1, h2⟩ := hv
 simp only [Value.tuple.injEq, Array.mk.injEq, List.cons.injEq, and_true] at h1
 obtain ⟨h1, h3⟩ := h1
 injection h3 with _ h3
 subst h3
 rw [h1]
 exact h2.imp id fun h => ⟨h.1, h.2.elim fun c hc => ⟨c, hc.1.keep hk fun q hq e => by have := hb.2.1; omega, hc.2⟩⟩
abbrev Wfa (a : Ac) : Prop := (Lit.int .i64 a.i).wf = true ∧ (Lit.int .i64 a.j).wf = true ∧ (Lit.int .i64 a.n).wf = true
abbrev Fit5 (c : Cp) : Prop := c.path.length ≤ 5 ∧ c.v.size ≤ 300
def ActsTo : V → List Cp → V → Prop
 | v, [], z => z = v
 | v, c :: r, z => SV v ∧ OneOk v c ∧ ∃ y, PDo v c y ∧ ActsTo y r z
theorem ActsTo.snoc : ∀ {cs : List Cp} {v y z : V} {c : Cp}, ActsTo v cs y → SV y → OneOk y c → PDo y c z → ActsTo v (cs ++ [c]) z
 | [], v, y, z, c, h, hs, ho, hp => by have h : y = v := h; subst h; exact ⟨hs, ho, z, hp, rfl⟩
 | d :: cs, v, y, z, c, ⟨h1, h2, x, h3, h4⟩, hs, ho, hp => ⟨h1, h2, x, h3, ActsTo.snoc h4 hs ho hp⟩
def AimTo (v : V) (w : World) (e : Ending) (w' : World) : Prop := ∃ u cs z, e = .returned u ∧ Own ECp w' w.heap.size TCMP (DS w' w.heap.size u) u cs ∧ cs.length ≤ 20 ∧ (∀ c ∈ cs, Fit5 c) ∧ Ext w w' ∧ ActsTo v cs z ∧ SV z ∧ VTx 860 z ∧ z.size ≤ 8100
theorem OneOk.fit {v : V} {c : Cp} (hv : SV v) (hz : v.size ≤ 100000) (h : OneOk v c) : Fit5 c := ⟨h.elim fun _ h => h.2.1, (one_ok hv hz h).2.1⟩
theorem aim6_big (w0 : World) (hva : ValAny w0) (hD : DecAny w0) (w : World) (hw : Ext w0 w) (S S2 : BS) (u lv : Value) (v : V) (l : List Ac) (hv : VAt w S u v) (hsv : SV v) (htx : VTx 40 v) (hvz : v.size ≤ 2000) (hl : Sl EAc w S2 lv l) (hwf : ∀ a ∈ l, Wfa a) :
  Calls Tryd.prog 27 #[u, lv] w (AimTo v w) := by
 obtain ⟨lx, ox, rfl, k1, k2⟩ := hv.cut
 obtain ⟨Bl, dl, rfl, _⟩ := k1.shape
 obtain ⟨Bo, do_, rfl, _⟩ := k2.shape
 have hl := hl.more (S' := fun k => k < w.heap.size) EAc.ok fun k h _ => h
 obtain ⟨A, ca, rfl, hlc, hcm⟩ := hl.shape
 unfold maxLen at hcm
 obtain ⟨W, hW⟩ : ∃ W, w.alloc (.cells (vC v Bl dl Bo do_) TVAL) = W := ⟨_, rfl⟩
 have hE : Ext w W := by rw [← hW]; exact (Keep.refl _ _).alloc _
 have hsz : W.heap.size = w.heap.size + 1 := by rw [← hW]; simp
 have hb : Blk W w.heap.size TVAL (vC v Bl dl Bo do_) := by rw [← hW]; exact Blk.new _ _ _
 have HV := hid (show VAt W (fun q => q ≠ w.heap.size) (.agg (vC v Bl dl Bo do_)) v from VAt.more ⟨_, _, rfl, k1.ext EVal.ok hE, k2.ext EField.ok hE⟩ fun k _ h => by have := h.2; omega)
 have HL := hid (hl.ext EAc.ok hE)
 have HE := hid hE
 have HSZ := hid hsz
 have HB := hid hb
 have HX := hid (hw.ext hE)
 have HW0 := hid hw.size
 have HVA := hid hva
 have HD := hid hD
 have HSV := hid hsv
 have HTX := hid htx
 have HVZ := hid hvz
 have HWF := hid hwf
 obtain ⟨n, hn⟩ : ∃ n, l.length = n := ⟨_, rfl⟩
 have HN := hid hn
 rw [hn] at HL hlc ⊢
 clear k1 k2 hE hsz hb hw hl hn hv hva hD hsv htx hvz hwf
 go_enter Tryd.func27, Tryd.ntmps27
 go_wp2_with fail
 go_loopw [5, 6, 7, 8, 9, 10] (fun out i _ _ _ _ wr => ∃ (j : Nat) (y : V) (cs : List Cp) (lv ov : Value), i = .int .i64 j ∧ j ≤ n ∧ j ≤ 20 ∧ SV y ∧ VTx (40 + 41 * j) y ∧ y.size ≤ 2000 + 301 * j ∧ ActsTo v cs y ∧ Blk wr w.heap.size TVAL #[U8 y.kind, .int .i64 y.n, .string y.s, lv, ov] ∧
  VAt wr (fun q => q ≠ w.heap.size) (.agg #[U8 y.kind, .int .i64 y.n, .string y.s, lv, ov]) y ∧ Own ECp wr W.heap.size TCMP (DS wr W.heap.size out) out cs ∧ cs.length ≤ j ∧ (∀ c ∈ cs, Fit5 c) ∧ Keep (· = w.heap.size) W wr) (fun _ i _ _ _ _ _ => n - (intOf i).toNat)
 case atStart => exact ⟨0, v, [], _, _, rfl, by omega, by omega, HSV.out, HTX.out.mono (by omega), by have := HVZ.out; omega, rfl, HB.out, HV.out, Own.nil _ _ _ _, by simp, (fun c hc => (by cases hc)), Keep.refl _ _⟩
 case round =>
  obtain ⟨j, y, cs, lv, ov, rfl, hj, hj20, hsy, hty, hzy, hac, hb, hva, hown, hcl, hcf, hkr⟩ := hrel
  obtain ⟨lv', ov', e, hxl, hxo⟩ := hva
  obtain ⟨e1, e2⟩ : lv = lv' ∧ ov = ov' := by simp at e; exact e
  subst e1 e2
  clear e
  obtain ⟨A2, c2, rfl, h2l, h2m⟩ := hxl.shape
  obtain ⟨A3, c3, rfl, h3l, h3m⟩ := hxo.shape
  obtain ⟨A4, c4, rfl, h4l, h4m⟩ := hown.shape
  have HY := hid (show VAt wr (fun q => q ≠ w.heap.size) (.agg (vC y A2 c2 A3 c3)) y from ⟨_, _, rfl, hxl, hxo⟩)
  have HK := hid hkr
  have HBY := hid hb
  have HSY := hid hsy
  have HTY := hid hty
  have HAC := hid hac
  have HZY := hid hzy
  have HO := hid hown
  have HCL := hid hcl
  have HCF := hid hcf
  have hkz := hkr.size
  have hws := HSZ.out
  have HLr := hid (HL.out.keep EAc.ok hkr fun q hq e => by omega)
  obtain ⟨q0, q1, q2, q3, q4⟩ := blk5 hb
  clear hxl hxo hkr hb hws hsy hty hzy hown hcl hcf hac
  by_cases hlt : j < n
  ·have hltX : (j : Int) < n := by omega
   by_cases h20 : j < 20
   ·have h20X : (j : Int) < 20 := by omega
    have hj' : j < l.length := by rw [HN.out]; exact hlt
    obtain ⟨bp, op, c0, rfl, _, _, ⟨pva, vva, rfl, p1, p2⟩, hcell⟩ := HLr.out.at_ EAc.ok hj'
    have HWA := hid (HWF.out _ (List.getElem_mem hj'))
    generalize l[j] = a at *
    obtain ⟨Ap, cp, rfl, _⟩ := p1.shape
    obtain ⟨Al, cl, rfl, _⟩ := p2.shape
    have HAA := hid (show AAt wr (fun k => k < w.heap.size) (.agg (acCells a (.slice Ap a.path.length cp) (.slice Al a.v.length cl))) a from ⟨_, _, rfl, p1, p2⟩)
    have e7 : EAc.size = 7 := rfl
    have g0 := hcell 0 _ rfl
    have g1 := hcell 1 _ rfl
    have g2 := hcell 2 _ rfl
    have g3 := hcell 3 _ rfl
    have g4 := hcell 4 _ rfl
    have g5 := hcell 5 _ rfl
    have g6 := hcell 6 _ rfl
    simp only [e7, Nat.add_zero] at g0 g1 g2 g3 g4 g5 g6
    have hwr : Ext w0 wr := HX.out.trans HK.out fun k hk e => by have := HW0.out; omega
    have HWR := hid hwr
    clear hcell p1 p2 e7 hwr hj'
    go_wp2_with fail
    refine H.wp_region_frees [8] [1, 2] [0, 3, 4, 5, 6, 7, 8, 9] [10] [11]
     (H.specOf [(5, OutN y wr.heap.size), (9, BoxC wr.heap.size)])
     (fun w' => Ext wr w') ?_ (H.stableC_ext _) (by kernel_rfl) (by intro k hk; simp at hk; rcases hk with rfl | rfl <;> rfl) (by kernel_rfl) (Keep.drew (Keep.refl _ _)) ?_
    ·exact H.stable_cons (fun n m v w w' h he => h.ext he) (H.stable_cons (fun n m v w w' h he => h.ext he) H.stable_nil)
    iterate 2
     (try simp only [Act.put, sqa, sqb, sqc])
     refine H.pure_run rfl rfl ?_
     apply Exists.intro
     refine ⟨fun w' => ?_, ?_⟩
     ·go_simp
      rfl
    refine H.pure_nil ?_
    iterate 3
     (try simp only [Act.put, sqa, sqb, sqc])
     refine H.growP_run rfl rfl rfl ?_
     apply Exists.intro
     refine ⟨fun w' hC hK => ?_, ?_⟩
     ·have q0 := sqw hC q0
      have q1 := sqw hC q1
      have q2 := sqw hC q2
      have q3 := sqw hC q3
      have q4 := sqw hC q4
      have g0 := sqw hC g0
      have g1 := sqw hC g1
      have g2 := sqw hC g2
      have g3 := sqw hC g3
      have g4 := sqw hC g4
      have g5 := sqw hC g5
      have g6 := sqw hC g6
      go_simp
      rfl
    (try simp only [Act.put, sqa, sqb, sqc])
    refine H.growP_eff rfl rfl rfl (fun w' hC hK => ?_) (fun v5 nv5 mv5 hv5 => ?_)
    ·have hcall := (one6_big w' _ _ _ _ y a (HY.out.ext hC) HSY.out (by have := HZY.out; omega) (HAA.out.ext hC) HWA.out.1 HWA.out.2.1 HWA.out.2.2).mono fun e w'' h => h.outn (K := wr.heap.size) hC.size
     unfold H.growAt
     go_simp
     exact H.grow_call hcall
    obtain ⟨_, _, _, k9, A9, m9, c9, key9, i9, j9, n9, vk9, vn9, vs9, B9, p9, q9, D9, r9, s9, t9, o9, rfl, _⟩ := hv5.head
    iterate 3
     (try simp only [Act.put, sqa, sqb, sqc])
     refine H.growP_run rfl rfl rfl ?_
     apply Exists.intro
     refine ⟨fun w' hC hK => ?_, ?_⟩
     ·go_simp
      rfl
    (try simp only [Act.put, sqa, sqb, sqc])
    refine H.growP_eff rfl rfl rfl (fun w' hC hK => ?_) (fun v9 nv9 mv9 hv9 => ?_)
    ·unfold H.growAt
     go_simp
     exact ⟨(Keep.refl _ _).alloc _, hC.size, by simp, rfl, Blk.new _ _ _⟩
    obtain ⟨_, _, hn, hnm, rfl, _⟩ := hv9.head
    refine H.growP_nil fun w7 hC hK => ?_
    have hbox : BoxC wr.heap.size nv9 mv9 (.pointer (some ⟨nv9, 0, none⟩)) w7 := (hK.1 (9, _) List.mem_cons_self).1
    have hout : OutN y wr.heap.size nv5 mv5 (.tuple #[.agg #[.int .u8 k9, .slice A9 m9 c9, .string key9, .int .i64 i9, .int .i64 j9, .int .i64 n9, .int .u8 vk9, .int .i64 vn9, .string vs9, .slice B9 p9 q9, .slice D9 r9 s9, .string t9], .int .i64 o9]) w7 := (hK.1 (5, _) (List.mem_cons_of_mem _ List.mem_cons_self)).1
    have hap : mv9 ≤ nv5 ∨ mv5 ≤ nv9 := hK.2 (9, _) List.mem_cons_self (5, _) (List.mem_cons_of_mem _ List.mem_cons_self) (by simp)
    have hn5 : wr.heap.size ≤ nv5 := hout.1
    have HNV := hid hn
    obtain ⟨bq0, bq1, bq2, bq3, bq4, bq5, bq6, bq7, bq8, bq9, bq10, bq11⟩ := sq12 hbox.2.2.2
    obtain ⟨bf0, bf1, bf2, bf3, bf4, bf5, bf6, bf7, bf8, bf9, bf10, bf11⟩ := sqf12 hbox.2.2.2
    have HF := hid (OutN.fill hC hbox hout hap)
    have HN5 := hid hn5
    clear hbox hout hap hK hn hnm hn5 q0 q1 q2 q3 q4 g0 g1 g2 g3 g4 g5 g6 hv5 hv9 hC
    change wpList _ _ _ (_ :: []) _ _
    (try simp only [Act.put, sqa, sqb, sqc])
    go_wp2_with fail
    refine H.Then.normal ?_
    iterate 1
     (try simp only [Act.put, sqa, sqb, sqc])
     refine H.pure_run rfl rfl ?_
     apply Exists.intro
     refine ⟨fun w' => ?_, ?_⟩
     ·go_simp
      rfl
    refine H.pure_nil ?_
    refine NoPanic.normal ?_
    (try simp only [Act.put, sqa, sqb, sqc])
    obtain ⟨hE8, hB8, hO8⟩ := HF.out
    clear HF bq0 bq1 bq2 bq3 bq4 bq5 bq6 bq7 bq8 bq9 bq10 bq11 bf0 bf1 bf2 bf3 bf4 bf5 bf6 bf7 bf8 bf9 bf10 bf11
    change Exit.then _ _ Exit.normal _ (put12 w7 nv9 (.int .u8 k9) (.slice A9 m9 c9) (.string key9) (.int .i64 i9) (.int .i64 j9) (.int .i64 n9) (.int .u8 vk9) (.int .i64 vn9) (.string vs9) (.slice B9 p9 q9) (.slice D9 r9 s9) (.string t9))
    generalize put12 w7 nv9 (.int .u8 k9) (.slice A9 m9 c9) (.string key9) (.int .i64 i9) (.int .i64 j9) (.int .i64 n9) (.int .u8 vk9) (.int .i64 vn9) (.string vs9) (.slice B9 p9 q9) (.slice D9 r9 s9) (.string t9) = w8 at *
    have HBY8 := hid (HBY.out.keep hE8 id)
    have HY8 := hid (HY.out.ext hE8)
    have HO8 := hid (HO.out.ext ECp.ok hE8)
    have HK8 := hid (HK.out.trans hE8 fun q _ h => h.elim)
    have HWR8 := hid (HWR.out.ext hE8)
    have HB8 := hid hB8
    have HON := hid hO8
    have HE8 := hid hE8
    clear hE8 hB8 hO8 HBY HLr HAA HWR
    obtain ⟨q0, q1, q2, q3, q4⟩ := blk5 HBY8.out
    obtain ⟨x0, x1, x2, x3, x4, x5, x6, x7, x8, x9, x10, x11⟩ := sq12 HB8.out
    rcases HON.out with h0 | ⟨h0, c, hcc, hok⟩
    ·subst h0
     clear HON
     go_wp2
     go_roundw
     case rel => exact ⟨j + 1, y, cs, _, _, by go_num, by omega, by omega, HSY.out, HTY.out.mono (by omega), by have := HZY.out; omega, HAC.out, HBY8.out, HY8.out, HO8.out.more ECp.ok fun k _ h => ⟨h.1, Nat.lt_of_lt_of_le h.2.1 HE8.out.size, h.2.2⟩, by have := HCL.out; omega, HCF.out, HK8.out⟩
     case measure => simp [intOf]; omega
    ·subst h0
     obtain ⟨z, hpd, hdo, hsz, htz, hzz⟩ := aim_step HVA.out HD.out (R := 40 + 41 * j) (by omega) HSY.out HTY.out (by have := HZY.out; omega) hok
     have HDO := hid hdo
     have HAZ := hid (HAC.out.snoc HSY.out hok hpd)
     have HSZ2 := hid hsz
     have HTZ := hid htz
     have HZZ := hid hzz
     have HFC := hid (hok.fit HSY.out (by have := HZY.out; omega))
     have HCC := hid hcc
     clear HON hok hpd hdo hsz htz hzz
     obtain ⟨pv1, lv1, ov1, e1, y1, y2, y3⟩ := hcc
     simp at e1
     obtain ⟨rfl, rfl, rfl, rfl, rfl, rfl, rfl, rfl, rfl, rfl, rfl, rfl⟩ := e1
     have HP1 := hid (And.intro (y1.more (S' := fun q => nv5 ≤ q ∧ q < w8.heap.size) ESt.ok fun k h1 h2 => ⟨h2.1, h1⟩) (And.intro (y2.more (S' := fun q => nv5 ≤ q ∧ q < w8.heap.size) EVal.ok fun k h1 h2 => ⟨h2.1, h1⟩) (y3.more (S' := fun q => nv5 ≤ q ∧ q < w8.heap.size) EField.ok fun k h1 h2 => ⟨h2.1, h1⟩)))
     clear y1 y2 y3
     go_wp2_with fail
     refine (HDO.out w8 _ _ _ _ HWR8.out HY8.out HCC.out).mono ?_
     rintro e w9 ⟨u, rfl, ⟨Az1, cz1, Az2, cz2, rfl, hq1, hq2⟩, hE9⟩
     have hA : Ext w9 (w9.alloc (.cells (vC z Az1 cz1 Az2 cz2) TVAL)) := (Keep.refl _ _).alloc _
     have HE10 := hid (hE9.ext hA)
     have HB10 := hid (HB8.out.keep (hE9.ext hA) id)
     have HBY10 := hid (HBY8.out.keep (hE9.ext hA) id)
     have HO10 := hid (HO8.out.ext ECp.ok (hE9.ext hA))
     have HK10 := hid (HK8.out.trans (hE9.ext hA) fun q _ h => h.elim)
     have HZ10 := hid (show VAt (w9.alloc (.cells (vC z Az1 cz1 Az2 cz2) TVAL)) (fun q => w8.heap.size ≤ q) (.agg (vC z Az1 cz1 Az2 cz2)) z from ⟨_, _, rfl, (hq1.more EVal.ok fun k _ h => h).ext EVal.ok hA, (hq2.more EField.ok fun k _ h => h).ext EField.ok hA⟩)
     have HP10 := hid (And.intro (HP1.out.1.ext ESt.ok (hE9.ext hA)) (And.intro (HP1.out.2.1.ext EVal.ok (hE9.ext hA)) (HP1.out.2.2.ext EField.ok (hE9.ext hA))))
     have HR10 := hid (Blk.new w9 TVAL (vC z Az1 cz1 Az2 cz2))
     clear hE9 hA hq1 hq2 q0 q1 q2 q3 q4 x0 x1 x2 x3 x4 x5 x6 x7 x8 x9 x10 x11 HBY8 HY8 HO8 HK8 HWR8 HB8 HCC HP1
     go_upto_region 9 with fail
     change Code.wp _ _ _ _ (w9.alloc (.cells (vC z Az1 cz1 Az2 cz2) TVAL))
     generalize (w9.alloc (.cells (vC z Az1 cz1 Az2 cz2) TVAL)) = w10 at *
     obtain ⟨s0, s1, s2, s3, s4⟩ := blk5 HR10.out
     obtain ⟨q0, q1, q2, q3, q4⟩ := blk5 HBY10.out
     obtain ⟨f0, f1, f2, f3, f4⟩ := sqf5 HBY10.out
     go_upto_region 10 with fail
     have hk : Keep (· = w.heap.size) w10 (fillW w10 w.heap.size (U8 z.kind) (.int .i64 z.n) (.string z.s) (.slice Az1 z.l.length cz1) (.slice Az2 z.o.length cz2)) := set5_keep w10 w.heap.size 0 (U8 z.kind) (.int .i64 z.n) (.string z.s) (.slice Az1 z.l.length cz1) (.slice Az2 z.o.length cz2)
     have hb11 : Blk (fillW w10 w.heap.size (U8 z.kind) (.int .i64 z.n) (.string z.s) (.slice Az1 z.l.length cz1) (.slice Az2 z.o.length cz2)) w.heap.size TVAL (vC z Az1 cz1 Az2 cz2) := set5_to HBY10.out rfl _ _ _ _ _
     have hws := HSZ.out
     have hkz8 := HE8.out.size
     have hn5 := HN5.out
     have hlow : w.heap.size < wr.heap.size := by omega
     have hne : nv9 ≠ w.heap.size := by have := HNV.out; omega
     have HB11 := hid (HB10.out.keep hk hne)
     have HBY11 := hid hb11
     have HO11 := hid (HO10.out.keep ECp.ok hk (fun q h e => by have := h.1; omega) (fun q h e => by have := (HO10.out.lt h).1; omega))
     have HK11 := hid (HK10.out.trans hk fun q _ h => h)
     have HZ11 := hid (HZ10.out.keep hk fun q h e => by omega)
     have HP11 := hid (And.intro (HP10.out.1.keep ESt.ok hk fun q h e => by omega) (And.intro (HP10.out.2.1.keep EVal.ok hk fun q h e => by omega) (HP10.out.2.2.keep EField.ok hk fun q h e => by omega)))
     have HKz := hid (hk.size)
     clear hk hb11 s0 s1 s2 s3 s4 q0 q1 q2 q3 q4 f0 f1 f2 f3 f4 HB10 HBY10 HO10 HK10 HZ10 HP10 HR10
     change Code.wp _ _ _ _ (fillW w10 w.heap.size (U8 z.kind) (.int .i64 z.n) (.string z.s) (.slice Az1 z.l.length cz1) (.slice Az2 z.o.length cz2))
     generalize (fillW w10 w.heap.size (U8 z.kind) (.int .i64 z.n) (.string z.s) (.slice Az1 z.l.length cz1) (.slice Az2 z.o.length cz2)) = w11 at *
     obtain ⟨x0, x1, x2, x3, x4, x5, x6, x7, x8, x9, x10, x11⟩ := sq12 HB11.out
     have hE12 : Ext w11 (w11.alloc (.cells (cpCells c (.slice A9 m9 c9) (.slice B9 p9 q9) (.slice D9 r9 s9)) TCMP)) := (Keep.refl _ _).alloc _
     have HSrc := hid (full_new2 (c := c) HP11.out.1 HP11.out.2.1 HP11.out.2.2)
     have HOa := hid (HO11.out.ext ECp.ok hE12)
     have HBYa := hid (HBY11.out.keep hE12 id)
     have HZa := hid (HZ11.out.ext hE12)
     have HKa := hid (HK11.out.trans hE12 fun q _ h => h.elim)
     have hN11 : (w11.alloc (.cells (cpCells c (.slice A9 m9 c9) (.slice B9 p9 q9) (.slice D9 r9 s9)) TCMP)).heap.size = w11.heap.size + 1 := by simp
     have HN11 := hid hN11
     have HZS := hid (show w8.heap.size ≤ w11.heap.size from by have := HKz.out; have := HE10.out.size; omega)
     clear hE12 hN11 HP11 HO11 HBY11 HZ11 HK11 hws
     go_wp2_with (at_builtin; refine wpList_own_append (P := Tryd.prog) (E := ECp) (v := .slice A4 cs.length c4) (y := .slice (some ⟨w11.heap.size, 0, none⟩) 1 1) _ rfl (.tmp 41) (.tmp 43) ECp.ok ty_cp rfl rfl rfl HOa.out HSrc.out ?d1 ?d2 ?d3 ?d4 ?_)
     case d1 => exact fun g hg => ⟨fun h => h.2.2 hg, fun h => by have := (HO.out.lt hg).2; have := HZS.out; rcases h with h | h <;> omega⟩
     case d2 => have := HCL.out; simp only [List.length_singleton]; omega
     case d3 => have := HCL.out; simp only [List.length_singleton, maxLen]; omega
     case d4 => rw [World.size_alloc]; have := HZS.out; have := HE8.out.size; omega
     intro v' w12 hown hk hbk
     obtain ⟨A5, c5, rfl, hl5, hc5⟩ := hown.shape
     have hn11 := HN11.out
     have hzs := HZS.out
     have hws := HSZ.out
     have hlt4 : ∀ q, (Value.slice A4 cs.length c4).ownBlock = some q → W.heap.size ≤ q ∧ q < wr.heap.size := fun q hq => HO.out.lt hq
     have hk12 := hk.size
     try rw [World.size_alloc] at hk12
     try rw [World.size_alloc] at hbk
     have hz8 := HE8.out.size
     have hn5 := HN5.out
     have HO12 := hid (ds_next (wr := wr) (N := w11.heap.size + 1) (lo := W.heap.size) (S2 := fun q => (nv5 ≤ q ∧ q < w8.heap.size) ∨ q = w11.heap.size) ECp.ok hown (by omega) hk12 (fun k h => by rcases h with h | h <;> omega) hkz (fun g hg => (hlt4 g hg).2) hbk)
     have HBY12 := hid (HBYa.out.keep hk (fun e => by have := (hlt4 _ e).1; omega))
     have HZ12 := hid ((HZa.out.keep hk fun q h e => by have := (hlt4 _ e).2; omega).more (S' := fun q => q ≠ w.heap.size) fun q _ h => by omega)
     have HK12 := hid (HKa.out.trans hk fun q hq e => by have := (hlt4 _ e).1; omega)
     clear hown hk hbk hl5 hc5 hlt4 hn11 hzs hws hk12 HOa HSrc HBYa HZa HKa x0 x1 x2 x3 x4 x5 x6 x7 x8 x9 x10 x11
     go_wp2
     go_roundw
     case rel => exact ⟨j + 1, z, cs ++ [c], _, _, by go_num, by omega, by omega, HSZ2.out, HTZ.out.mono (by omega), by have := HZZ.out; have := HZY.out; omega, HAZ.out, HBY12.out, HZ12.out, HO12.out, by have := HCL.out; simp; omega, fun d hd => by
      rcases List.mem_append.1 hd with hd | hd
      ·exact HCF.out d hd
      ·rw [List.mem_singleton.1 hd]; exact HFC.out, HK12.out⟩
     case measure => simp [intOf]; omega
   ·have h20X : ¬ (j : Int) < 20 := by omega
    go_wp2
    go_ret
    exact ⟨_, cs, y, rfl, (HO.out.less (by have := HSZ.out; omega)).more ECp.ok fun k _ h => ⟨by have := h.1; have := HSZ.out; omega, h.2⟩, by have := HCL.out; omega, HCF.out, HE.out.trans HK.out fun k hk e => by omega, HAC.out, HSY.out, HTY.out.mono (by omega), by have := HZY.out; omega⟩
  ·have hltX : ¬ (j : Int) < n := by omega
   go_wp2
   go_ret
   exact ⟨_, cs, y, rfl, (HO.out.less (by have := HSZ.out; omega)).more ECp.ok fun k _ h => ⟨by have := h.1; have := HSZ.out; omega, h.2⟩, by have := HCL.out; omega, HCF.out, HE.out.trans HK.out fun k hk e => by omega, HAC.out, HSY.out, HTY.out.mono (by omega), by have := HZY.out; omega⟩
end Go.Proofs.YtggkidnlmaindaaDoor
namespace Go.Proofs.YtggkidnlmaindaaDoor
open Go.ChangeShapes Go.WideShapes Go.ChangeAt Go.RowKit Go.Deep
theorem op_tok {H : Type} {enc : TypeId × Value → H} {W : World} {spare : Nat → Bool} {held : Bool} : Opens ETok enc Tryd.prog W spare held 65 (fun _ => True) := by
 refine (opens_struct Tryd.underlying65 (by kernel_rfl) (fop_cons rfl (opens_u8 Tryd.underlying5 (by kernel_rfl)) (fop_cons rfl (opens_int Tryd.underlying2 (by kernel_rfl)) (fop_cons rfl (opens_str Tryd.underlying9 (by kernel_rfl))
  (fop_one rfl (opens_u8 Tryd.underlying5 (by kernel_rfl))))))).map rfl (fun x => ⟨x.1, x.2.1, x.2.2.1, x.2.2.2⟩) ?_ ?_
 ·rintro w S cs x ⟨c1, _, rfl, h1, c2, _, rfl, h2, c3, c4, rfl, h3, h4⟩
  show _ = _
  rw [show c1 = _ from h1, show c2 = _ from h2, show c3 = _ from h3, show c4 = _ from h4]; rfl
 ·rintro x _
  trivial
end Go.Proofs.YtggkidnlmaindaaDoor
namespace Go.Proofs.YtggkidnlmaindaaDoor
open Go.ChangeShapes Go.WideShapes Go.ChangeAt Go.RowKit Go.Deep
theorem op_act {H : Type} {enc : TypeId × Value → H} {W : World} {spare : Nat → Bool} {held : Bool} : Opens EAc enc Tryd.prog W spare held 86 Wfa := by
 refine (opens_struct Tryd.underlying86 (by kernel_rfl) (fop_cons rfl (opens_slice EU8.ok Tryd.underlying70 (by kernel_rfl) (opens_u8 Tryd.underlying5 (by kernel_rfl))) (fop_cons rfl (opens_u8 Tryd.underlying5 (by kernel_rfl))
  (fop_cons rfl (opens_int Tryd.underlying3 (by kernel_rfl)) (fop_cons rfl (opens_int Tryd.underlying3 (by kernel_rfl)) (fop_cons rfl (opens_int Tryd.underlying2 (by kernel_rfl)) (fop_cons rfl (opens_str Tryd.underlying9 (by kernel_rfl))
  (fop_one rfl (opens_slice ETok.ok Tryd.underlying22 (by kernel_rfl) op_tok))))))))).map rfl (fun x => ⟨x.1, x.2.1, x.2.2.1, x.2.2.2.1, x.2.2.2.2.1, x.2.2.2.2.2.1, x.2.2.2.2.2.2⟩) ?_ ?_
 ·rintro w S cs x ⟨c1, _, rfl, ⟨pv, h1, h1'⟩, c2, _, rfl, h2, c3, _, rfl, h3, c4, _, rfl, h4, c5, _, rfl, h5, c6, c7, rfl, h6, ⟨vv, h7, h7'⟩⟩
  exact ⟨pv, vv, by rw [h1, show c2 = _ from h2, show c3 = _ from h3, show c4 = _ from h4, show c5 = _ from h5, show c6 = _ from h6, h7]; rfl, h1', h7'⟩
 ·rintro x ⟨_, _, h3, h4, h5, _, _⟩
  exact ⟨h3, h4, h5⟩
end Go.Proofs.YtggkidnlmaindaaDoor
namespace Go.Proofs.YtggkidnlmaindaaDoor
open Go.ChangeShapes Go.WideShapes Go.ChangeAt Go.RowKit Go.Deep
theorem op_st2 {H : Type} {enc : TypeId × Value → H} {W : World} {spare : Nat → Bool} {held : Bool} : Opens ESt enc Tryd.prog W spare held 61 (fun s => s.key.size ≤ reachBytes) := by
 refine (opens_struct Tryd.underlying61 (by kernel_rfl) (fop_cons rfl (opens_bool Tryd.underlying4 (by kernel_rfl)) (fop_cons rfl (opens_int Tryd.underlying3 (by kernel_rfl)) (fop_one rfl (opens_str Tryd.underlying9 (by kernel_rfl)))))).map rfl (fun x => ⟨x.1, x.2.1, x.2.2⟩) ?_ ?_
 ·rintro w S cs x ⟨c1, _, rfl, h1, c2, c3, rfl, h2, h3⟩
  show _ = _
  rw [show c1 = _ from h1, show c2 = _ from h2, show c3 = _ from h3]; rfl
 ·rintro x ⟨_, _, h⟩
  exact h
end Go.Proofs.YtggkidnlmaindaaDoor
namespace Go.Proofs.YtggkidnlmaindaaDoor
open Go.RowKit
structure Br where
 kind : UInt8
 path : List St
 key : ByteArray
 i : Int
 j : Int
 n : Int
 s : ByteArray
 v : List Tk
def EBr : El Br := { size := 8, rd := fun w S cs b => ∃ pv vv, cs = [U8 b.kind, pv, .string b.key, .int .i64 b.i, .int .i64 b.j, .int .i64 b.n, .string b.s, vv] ∧ Sl ESt w S pv b.path ∧ Sl ETok w S vv b.v }
theorem EBr.ok : EBr.Ok where
 pos := by decide
 len := fun ⟨_, _, h, _⟩ => by subst h; rfl
 one := fun ⟨pv, vv, h, h1, h2⟩ u hu => by
  subst h
  obtain ⟨A, c, rfl, _⟩ := h1.shape
  obtain ⟨B, d, rfl, _⟩ := h2.shape
  simp at hu
  rcases hu with rfl | rfl | rfl | rfl | rfl | rfl | rfl | rfl <;> rfl
 keep := fun ⟨pv, vv, h, h1, h2⟩ hk hF => ⟨pv, vv, h, h1.keep ESt.ok hk hF, h2.keep ETok.ok hk hF⟩
 more := fun ⟨pv, vv, h, h1, h2⟩ hS => ⟨pv, vv, h, h1.more ESt.ok fun k hk => hS k hk, h2.more ETok.ok fun k hk => hS k hk⟩
abbrev TREC : Nat := 30
structure Rc where
 kind : UInt8
 src : Int
 seq : Int
 v : List Tk
 op : List Br
 acts : List Ac
 sound : Bool
abbrev rcCells (r : Rc) (vv ov av : Value) : Array Value := #[U8 r.kind, .int .u32 r.src, .int .u32 r.seq, vv, ov, av, .bool r.sound]
def RcAt (w : World) (S : BS) (u : Value) (r : Rc) : Prop := ∃ vv ov av, u = .agg (rcCells r vv ov av) ∧ Sl ETok w S vv r.v ∧ Sl EBr w S ov r.op ∧ Sl EAc w S av r.acts
theorem RcAt.ext {w w' : World} {S : BS} {u : Value} {r : Rc} (h : RcAt w S u r) (he : Ext w w') : RcAt w' S u r := by
 obtain ⟨vv, ov, av, h1, h2, h3, h4⟩ := h; exact ⟨vv, ov, av, h1, h2.ext ETok.ok he, h3.ext EBr.ok he, h4.ext EAc.ok he⟩
theorem RcAt.more {w : World} {S S' : BS} {u : Value} {r : Rc} (h : RcAt w S u r) (hS : ∀ k, S k → S' k) : RcAt w S' u r := by
 obtain ⟨vv, ov, av, h1, h2, h3, h4⟩ := h; exact ⟨vv, ov, av, h1, h2.more ETok.ok fun k _ h => hS k h, h3.more EBr.ok fun k _ h => hS k h, h4.more EAc.ok fun k _ h => hS k h⟩
theorem heavy10_any (w : World) (S : BS) (u : Value) (r : Rc) (h : RcAt w S u r) : Calls Tryd.prog 30 #[u] w (NumIs w) := by
 obtain ⟨vv, ov, av, rfl, h1, h2, h3⟩ := h
 obtain ⟨A1, c1, rfl, hl1, hm1⟩ := h1.shape
 obtain ⟨A2, c2, rfl, hl2, hm2⟩ := h2.shape
 obtain ⟨A3, c3, rfl, hl3, hm3⟩ := h3.shape
 unfold maxLen at hm1 hm2 hm3
 obtain ⟨W, hW⟩ : ∃ W, w.alloc (.cells (rcCells r (.slice A1 r.v.length c1) (.slice A2 r.op.length c2) (.slice A3 r.acts.length c3)) TREC) = W := ⟨_, rfl⟩
 have hE : Ext w W := by rw [← hW]; exact (Keep.refl _ _).alloc _
 have hb : Blk W w.heap.size TREC (rcCells r (.slice A1 r.v.length c1) (.slice A2 r.op.length c2) (.slice A3 r.acts.length c3)) := by rw [← hW]; exact Blk.new _ _ _
 have HV := hid (h1.ext ETok.ok hE)
 have HO := hid (h2.ext EBr.ok hE)
 have HA := hid (h3.ext EAc.ok hE)
 have HE := hid hE
 obtain ⟨n1, hn1⟩ : ∃ n, r.v.length = n := ⟨_, rfl⟩
 obtain ⟨n2, hn2⟩ : ∃ n, r.op.length = n := ⟨_, rfl⟩
 have HN1 := hid hn1
 have HN2 := hid hn2
 rw [hn1, hn2] at hb
 rw [hn1] at hl1 hW HV ⊢
 rw [hn2] at hl2 hW HO ⊢
 have q3 := hb.cell 3
 have q4 := hb.cell 4
 have q5 := hb.cell 5
 simp at q3 q4 q5
 have HB := hid hb
 clear h1 h2 h3 hE hb hn1 hn2
 go_enter Tryd.func30, Tryd.ntmps30
 go_wp2_with fail
 refine (heavy6_any W _ _ _ HA.out).mono ?_
 rintro e w1 ⟨z0, rfl, hE1⟩
 replace HB := hid (HB.out.keep hE1 id)
 replace HV := hid (HV.out.ext ETok.ok hE1)
 replace HO := hid (HO.out.ext EBr.ok hE1)
 replace HE := hid (HE.out.ext hE1)
 clear hE1 hW q3 q4 q5 HA
 have q3 := HB.out.cell 3
 have q4 := HB.out.cell 4
 simp at q3 q4
 go_wp2_with fail
 go_loopw [3, 4] (fun y i wr => ∃ (j : Nat) (z : Int), j ≤ n1 ∧ i = .int .i64 j ∧ y = .int .i64 z ∧ wr = w1) (fun _ i _ => n1 - (intOf i).toNat)
 case atStart => exact ⟨0, _, by omega, rfl, rfl, rfl⟩
 case round =>
  obtain ⟨j, z, hj, rfl, rfl, rfl⟩ := hrel
  by_cases hlt : j < n1
  ·have hX : (j : Int) < n1 := by omega
   obtain ⟨b2, o2, c2, rfl, _, _, hr2, hc2⟩ := HV.out.at_ ETok.ok (k := j) (by rw [HN1.out]; exact hlt)
   have hr2 : c2 = [U8 _, .int .i64 _, .string _, U8 _] := hr2
   subst hr2
   have t2 := hc2 2 _ rfl
   have e4 : ETok.size = 4 := rfl
   simp only [e4] at t2
   clear hc2 e4
   go_wp2
   exact ⟨⟨j + 1, _, by omega, by go_num, rfl, by first | trivial | rfl⟩, by simp [intOf]; omega⟩
  ·obtain rfl : j = n1 := by omega
   have hX : ¬ (j : Int) < j := by omega
   go_wp2_with fail
   go_loopw [3, 5] (fun y i wz => ∃ (k : Nat) (z : Int), k ≤ n2 ∧ i = .int .i64 k ∧ y = .int .i64 z ∧ Ext wr wz) (fun _ i _ => n2 - (intOf i).toNat)
   case atStart => exact ⟨0, _, by omega, rfl, rfl, Keep.refl _ _⟩
   case round =>
    obtain ⟨k, z2, hk, rfl, rfl, hEr⟩ := hrel
    have HE2 := hid hEr
    have q4 := sqw hEr q4
    clear hEr
    by_cases hlt2 : k < n2
    ·have hX2 : (k : Int) < n2 := by omega
     obtain ⟨b, off, c0, rfl, _, _, ⟨pv, vv, rfl, h1, h2⟩, hc⟩ := (HO.out.ext EBr.ok HE2.out).at_ EBr.ok (k := k) (by rw [HN2.out]; exact hlt2)
     generalize r.op[k]'(by rw [HN2.out]; exact hlt2) = a at *
     obtain ⟨Ap, cp, rfl, hcp, hcpm⟩ := h1.shape
     obtain ⟨Av, cv, rfl, hcv, hcvm⟩ := h2.shape
     have g1 := hc 1 _ rfl
     have g2 := hc 2 _ rfl
     have g6 := hc 6 _ rfl
     have g7 := hc 7 _ rfl
     have e8 : EBr.size = 8 := rfl
     simp only [e8] at g1 g2 g6 g7
     have HP := hid h1
     have HT := hid h2
     clear hc e8 h1 h2
     unfold maxLen at hcvm hcpm
     obtain ⟨m, hm⟩ : ∃ m, a.v.length = m := ⟨_, rfl⟩
     obtain ⟨l, hl⟩ : ∃ l, a.path.length = l := ⟨_, rfl⟩
     have HM := hid hm
     have HL := hid hl
     rw [hm] at g7 HT hcv
     rw [hl] at g1 HP hcp
     clear hm hl
     go_wp2_with fail
     refine wp_region_grow (specOf []) (fun w' => Ext wr w') stable_nil (stableC_ext _) (by kernel_rfl) (by kernel_rfl) (Keep.drew (Keep.refl _ _)) ?_
     iterate 27
      (try simp only [Act.put, sqa, sqb, sqc])
      refine grow_run rfl rfl rfl ?_
      apply Exists.intro
      refine ⟨fun w' hC hK => ?_, ?_⟩
      ·have q4 := sqw hC q4
       have g1 := sqw hC g1
       have g2 := sqw hC g2
       have g6 := sqw hC g6
       go_simp
       rfl
     refine grow_nil fun w2 hC _ => ?_
     have hC : Ext wr w2 := hC
     replace q4 := sqw hC q4
     replace g1 := sqw hC g1
     replace g7 := sqw hC g7
     have HE3 := hid (HE2.out.ext hC)
     have HP1 := hid (HP.out.ext ESt.ok hC)
     have HT1 := hid (HT.out.ext ETok.ok hC)
     clear hC g2 g6 HE2 HP HT
     go_wp2_with fail
     go_loopw [3, 6] (fun y i wq => ∃ (p : Nat) (z : Int), p ≤ l ∧ i = .int .i64 p ∧ y = .int .i64 z ∧ wq = w2) (fun _ i _ => l - (intOf i).toNat)
     case atStart => exact ⟨0, _, by omega, rfl, rfl, rfl⟩
     case round =>
      obtain ⟨p, z3, hp, rfl, rfl, rfl⟩ := hrel
      by_cases hlt3 : p < l
      ·have hX3 : (p : Int) < l := by omega
       obtain ⟨b2, o2, c2, rfl, _, _, hr2, hc2⟩ := HP1.out.at_ ESt.ok (k := p) (by rw [HL.out]; exact hlt3)
       have hr2 : c2 = [.bool _, .int .i64 _, .string _] := hr2
       subst hr2
       have t2 := hc2 2 _ rfl
       have e3 : ESt.size = 3 := rfl
       simp only [e3] at t2
       clear hc2 e3
       go_wp2
       exact ⟨⟨p + 1, _, by omega, by go_num, rfl, by first | trivial | rfl⟩, by simp [intOf]; omega⟩
      ·obtain rfl : p = l := by omega
       have hX3 : ¬ (p : Int) < p := by omega
       go_wp2_with fail
       go_loopw [3, 7] (fun y i wq2 => ∃ (t : Nat) (z : Int), t ≤ m ∧ i = .int .i64 t ∧ y = .int .i64 z ∧ wq2 = wr) (fun _ i _ => m - (intOf i).toNat)
       case atStart => exact ⟨0, _, by omega, rfl, rfl, rfl⟩
       case round =>
        obtain ⟨t, z4, ht, rfl, rfl, rfl⟩ := hrel
        by_cases hlt4 : t < m
        ·have hX4 : (t : Int) < m := by omega
         obtain ⟨b2, o2, c2, rfl, _, _, hr2, hc2⟩ := HT1.out.at_ ETok.ok (k := t) (by rw [HM.out]; exact hlt4)
         have hr2 : c2 = [U8 _, .int .i64 _, .string _, U8 _] := hr2
         subst hr2
         have t2 := hc2 2 _ rfl
         have e4 : ETok.size = 4 := rfl
         simp only [e4] at t2
         clear hc2 e4
         go_wp2
         exact ⟨⟨t + 1, _, by omega, by go_num, rfl, by first | trivial | rfl⟩, by simp [intOf]; omega⟩
        ·obtain rfl : t = m := by omega
         have hX4 : ¬ (t : Int) < t := by omega
         go_wp2
         exact ⟨⟨k + 1, _, by omega, by go_num, rfl, HE3.out⟩, by simp [intOf]; omega⟩
    ·obtain rfl : k = n2 := by omega
     have hX2 : ¬ (k : Int) < k := by omega
     go_wp2
     go_ret
     exact ⟨_, rfl, HE.out.ext HE2.out⟩
def TruthR (w : World) (e : Ending) (w' : World) : Prop := ∃ b : Bool, e = .returned (.bool b) ∧ Ext w w'
theorem heavy18_any (w : World) (S S2 : BS) (v u : Value) (ts : List Tk) (r : Rc) (h : Sl ETok w S v ts) (hr : RcAt w S2 u r) :
  Calls Tryd.prog 8 #[v, .slice none 0 0, u] w (TruthR w) := by
 obtain ⟨A, c, rfl, hlc, hcm⟩ := h.shape
 unfold maxLen at hcm
 obtain ⟨vv, ov, av, rfl, h1, h2, h3⟩ := hr
 obtain ⟨A1, c1, rfl, hl1, hm1⟩ := h1.shape
 obtain ⟨A2, c2, rfl, hl2, hm2⟩ := h2.shape
 obtain ⟨A3, c3, rfl, hl3, hm3⟩ := h3.shape
 obtain ⟨W0, hW0⟩ : ∃ W, w.alloc (.cells (rcCells r (.slice A1 r.v.length c1) (.slice A2 r.op.length c2) (.slice A3 r.acts.length c3)) TREC) = W := ⟨_, rfl⟩
 have hE0 : Ext w W0 := by rw [← hW0]; exact (Keep.refl _ _).alloc _
 have hb : Blk W0 w.heap.size TREC (rcCells r (.slice A1 r.v.length c1) (.slice A2 r.op.length c2) (.slice A3 r.acts.length c3)) := by rw [← hW0]; exact Blk.new _ _ _
 have HA0 := hid (h.ext ETok.ok hE0)
 have HR0 := hid (show RcAt W0 S2 (.agg (rcCells r (.slice A1 r.v.length c1) (.slice A2 r.op.length c2) (.slice A3 r.acts.length c3))) r from ⟨_, _, _, rfl, h1.ext ETok.ok hE0, h2.ext EBr.ok hE0, h3.ext EAc.ok hE0⟩)
 have HE0 := hid hE0
 obtain ⟨q0, q1, q2, q3, q4, q5, q6⟩ := sq7 hb
 clear h hE0 hb h1 h2 h3
 generalize hn : ts.length = n at *
 have HN := hid hn
 clear hn
 go_enter Tryd.func8, Tryd.ntmps8
 go_wp2_with fail
 refine (heavy10_any W0 _ _ r HR0.out).mono ?_
 rintro e w1 ⟨z0, rfl, hE⟩
 have HA := hid (HA0.out.ext ETok.ok hE)
 have HE := hid (HE0.out.ext hE)
 clear hE hW0 q0 q1 q2 q3 q4 q5 q6 HR0
 go_wp2
 go_loop [7, 8] (fun y i => ∃ (z : Int) (j : Nat), y = .int .i64 z ∧ j ≤ n ∧ i = .int .i64 j) (fun _ i => n - (intOf i).toNat)
 case atStart => exact ⟨_, 0, rfl, by omega, rfl⟩
 case round =>
  obtain ⟨z, j, rfl, hj, rfl⟩ := hrel
  by_cases hlt : j < n
  ·obtain ⟨b1, o1, c0, rfl, _, _, hrd, hcell⟩ := HA.out.at_ ETok.ok (k := j) (by rw [HN.out]; exact hlt)
   generalize ts[j]'(by rw [HN.out]; exact hlt) = t at *
   obtain rfl : c0 = [U8 t.kind, .int .i64 t.n, .string t.s, U8 t.many] := hrd
   have e2 := hcell 2 _ rfl
   have hz : ETok.size = 4 := rfl
   simp only [hz] at e2
   clear hcell hz
   go_wp2
   go_round
   case rel => exact ⟨_, j + 1, rfl, by omega, by go_num⟩
   case measure => simp [intOf]; omega
  ·obtain rfl : j = n := by omega
   go_wp2
   go_loop [7, 9] (fun y i => ∃ (z : Int), y = .int .i64 z ∧ i = .int .i64 0) (fun _ i => 0)
   case atStart => exact ⟨z, rfl, rfl⟩
   case round =>
    obtain ⟨z2, rfl, rfl⟩ := hrel
    by_cases g1 : 5000 < z2
    ·go_wp2
     go_ret
     exact ⟨_, rfl, HE.out⟩
    ·go_wp2
     go_ret
     exact ⟨_, rfl, HE.out⟩
end Go.Proofs.YtggkidnlmaindaaDoor
