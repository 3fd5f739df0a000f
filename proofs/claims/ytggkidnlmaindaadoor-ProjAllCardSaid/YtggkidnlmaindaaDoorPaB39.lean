/- ProjR, ProjRL: laid together. -/
import Derived.Test.YtggkidnlmaindaaDoorPaB34
import Derived.Test.YtggkidnlmaindaaDoorPaB36
import Derived.Test.YtggkidnlmaindaaDoorPaB37
import Derived.Test.YtggkidnlmaindaaDoorPaB38
import Derived.Test.YtggkidnlmaindaaDoorPaB13
import Derived.Test.YtggkidnlmaindaaDoorRows
set_option linter.unusedSimpArgs false
set_option linter.unusedVariables false
set_option maxHeartbeats 25600000
set_option maxRecDepth 20000
namespace Go.Proofs.YtggkidnlmaindaaDoor
open Go.RowKit
def fSt : St := ⟨false, 0, ⟨#[102]⟩⟩
def preF (c : Cp) : Cp := { c with path := fSt :: c.path }
theorem touch_pre (fs : List ByteArray) (c : Cp) : touchL fs (preF c) = amongL fs ⟨#[102]⟩ := by unfold touchL preF fSt; rfl
theorem fil_all {fs : List ByteArray} (h : amongL fs ⟨#[102]⟩ = true) (l : List Cp) : (l.map preF).filter (touchL fs) = l.map preF := by
 rw [List.filter_eq_self]
 intro c hc
 obtain ⟨d, _, rfl⟩ := List.mem_map.1 hc
 rw [touch_pre, h]
theorem fil_none {fs : List ByteArray} (h : amongL fs ⟨#[102]⟩ = false) (l : List Cp) : (l.map preF).filter (touchL fs) = [] := by
 rw [List.filter_eq_nil_iff]
 intro c hc
 obtain ⟨d, _, rfl⟩ := List.mem_map.1 hc
 rw [touch_pre, h]; decide
theorem any_none {fs : List ByteArray} (h : amongL fs ⟨#[102]⟩ = true) (l : List Cp) : (l.map preF).any (goesC fs) = false := by
 rw [List.any_eq_false]
 intro c hc
 obtain ⟨d, _, rfl⟩ := List.mem_map.1 hc
 unfold goesC
 rw [touch_pre, h]; decide
theorem any_all {fs : List ByteArray} (h : amongL fs ⟨#[102]⟩ = false) : ∀ (l : List Cp), (l.map preF).any (goesC fs) = !l.isEmpty
 | [] => rfl
 | c :: l => by
  rw [List.map_cons, List.any_cons]
  have : goesC fs (preF c) = true := by unfold goesC; rw [touch_pre, h]; rfl
  rw [this]; rfl
theorem am_ef : amongL [⟨#[101]⟩, ⟨#[102]⟩] ⟨#[102]⟩ = true := by simp [amongL, ByteArray.toList_eq]
theorem am_eg : amongL [⟨#[101]⟩, ⟨#[103]⟩] ⟨#[102]⟩ = false := by simp [amongL, ByteArray.toList_eq]
theorem am_f : amongL [⟨#[102]⟩] ⟨#[102]⟩ = true := by simp [amongL, ByteArray.toList_eq]
theorem am_g : amongL [⟨#[103]⟩] ⟨#[102]⟩ = false := by simp [amongL, ByteArray.toList_eq]
theorem own_step (w : World) : Own ESt (w.alloc (.cells #[.bool false, .int .i64 0, .string ⟨#[102]⟩] TSTEP)) w.heap.size TSTEP (fun _ => False) (.slice (some ⟨w.heap.size, 0, none⟩) 1 1) [fSt] :=
 .inr ⟨w.heap.size, 1, _, rfl, Nat.le_refl _, Blk.new _ _ _, by simp, by simp [maxLen], rfl, Cells.single rfl⟩
theorem all18_ok (w : World) (S S1 : BS) (lv av pick : Value) (ts : List Tk) (l : List Ac) (hl : Sl ETok w S lv ts) (ha : Sl EAc w S1 av l) (hwf : ∀ a ∈ l, Wfa a) (hva : ValAny w) (hD : DecAny w) :
  Calls Tryd.prog 7 #[lv, av, pick] w fun e w' => e = .returned (.bool true) ∧ Ext w w' := by
 obtain ⟨A, c, rfl, hlc, hcm⟩ := hl.shape
 obtain ⟨Aa, ca, rfl, _⟩ := ha.shape
 have HL := hid hl
 have HA := hid ha
 have HVA := hid hva
 have HD := hid hD
 have HWF := hid hwf
 have HEND := hid (show ∀ wx, Ext w wx → Calls Tryd.prog 9 #[] wx fun e w' => e = .returned (.bool true) ∧ Ext w w' from fun wx h => (known18_ok w wx hva h).mono fun e w' h2 => ⟨h2.1, h.ext h2.2⟩)
 have HEW := hid (Keep.refl (fun _ => False) w)
 clear hl ha hva hD hwf hlc hcm
 go_enter Tryd.func7, Tryd.ntmps7
 go_wp2_with fail
 refine (heavy18_ok w _ (fun _ => True) _ _ _ [] HL.out (Sl.nil _ _)).mono ?_
 rintro e w1 ⟨b1, rfl, hE⟩
 replace HL := hid (HL.out.ext ETok.ok hE)
 replace HA := hid (HA.out.ext EAc.ok hE)
 replace HEW := hid (HEW.out.ext hE)
 clear hE
 cases b1 with
 | true =>
  go_wp2_with fail
  refine (HEND.out _ HEW.out).mono ?_
  rintro e w2 ⟨rfl, hz⟩
  have HZ := hid hz
  clear hz
  go_wp2
  go_ret
  exact ⟨rfl, HZ.out⟩
 | false =>
  go_wp2_with fail
  refine (heavy6_any w1 _ _ l HA.out).mono ?_
  rintro e w2 ⟨hz, rfl, hE⟩
  replace HL := hid (HL.out.ext ETok.ok hE)
  replace HA := hid (HA.out.ext EAc.ok hE)
  replace HEW := hid (HEW.out.ext hE)
  clear hE
  obtain ⟨tb, htb⟩ : ∃ tb : Bool, decide ((3000 : Int) < hz) = tb := ⟨_, rfl⟩
  cases tb with
  | true =>
   go_wp2_with fail
   refine (HEND.out _ HEW.out).mono ?_
   rintro e w2 ⟨rfl, hz⟩
   have HZ := hid hz
   clear hz
   go_wp2
   go_ret
   exact ⟨rfl, HZ.out⟩
  | false =>
   go_wp2_with fail
   refine (known18_ok w _ HVA.out HEW.out).mono ?_
   rintro e w3 ⟨rfl, hE⟩
   replace HL := hid (HL.out.ext ETok.ok hE)
   replace HA := hid (HA.out.ext EAc.ok hE)
   replace HEW := hid (HEW.out.ext hE)
   clear hE HEND htb
   go_wp2_with fail
   refine (build_okD _ _ _ _ HL.out).mono ?_
   rintro e w4 ⟨u, x, rfl, hsv, hsz, hx, hE⟩
   replace HA := hid (HA.out.ext EAc.ok hE)
   replace HEW := hid (HEW.out.ext hE)
   have HX := hid hx
   have HSV := hid hsv
   have HSZ := hid hsz
   obtain ⟨lx, ox, rfl, hlx, hox⟩ := hx
   obtain ⟨Ax1, cx1, rfl, _⟩ := hlx.shape
   obtain ⟨Ax2, cx2, rfl, _⟩ := hox.shape
   clear hE hsv hsz hlx hox HL
   go_wp2_with fail
   refine (aim6_ok w HVA.out HD.out w4 HEW.out _ _ _ _ x l HX.out HSV.out HSZ.out HA.out HWF.out).mono ?_
   rintro e w5 ⟨ov, cs, rfl, hown, hcl, hcf, hE⟩
   obtain ⟨A5, c5, rfl, h5l, h5m⟩ := hown.shape
   have HCS := hid ((hown.sl ECp.ok).more (S' := fun q => q < w5.heap.size) ECp.ok fun q h _ => h)
   have HCL := hid hcl
   have HCF := hid hcf
   replace HEW := hid (HEW.out.ext hE)
   obtain ⟨n, hn⟩ : ∃ n, cs.length = n := ⟨_, rfl⟩
   have HN := hid hn
   rw [hn] at HCS h5l ⊢
   clear hown hcl hcf hE hn HX HSV HSZ HA
   unfold maxLen at h5m
   go_wp2_with fail
   go_loopw [8, 9, 10, 11] (fun all i _ _ wr => ∃ j : Nat, i = .int .i64 j ∧ j ≤ n ∧ Own ECp wr w5.heap.size TCMP (DS wr w5.heap.size all) all ((cs.take j).map preF) ∧ Ext w5 wr) (fun _ i _ _ _ => n - (intOf i).toNat)
   case atStart => exact ⟨0, rfl, by omega, Own.nil _ _ _ _, Keep.refl _ _⟩
   case round =>
    obtain ⟨j, rfl, hj, hown, hEr⟩ := hrel
    obtain ⟨A4, c4, rfl, h4l, h4m⟩ := hown.shape
    have HOW := hid hown
    have HCSr := hid (HCS.out.ext ECp.ok hEr)
    have HER := hid hEr
    have hkz := hEr.size
    clear hown hEr
    by_cases hlt : j < n
    ·have hltX : (j : Int) < n := by omega
     have hj' : j < cs.length := by rw [HN.out]; exact hlt
     obtain ⟨bp, op, c0, rfl, _, _, ⟨pv, lv, ov, rfl, p1, p2, p3⟩, hcell⟩ := HCSr.out.at_ ECp.ok hj'
     have HFC := hid (HCF.out _ (List.getElem_mem hj'))
     have HTK := hid (show (cs.take (j + 1)).map preF = (cs.take j).map preF ++ [preF cs[j]] from by rw [List.take_succ_eq_append_getElem hj', List.map_append]; rfl)
     generalize cs[j] = d at *
     obtain ⟨Ap, cp, rfl, _⟩ := p1.shape
     obtain ⟨Aq, cq, rfl, _⟩ := p2.shape
     obtain ⟨Ar, cr, rfl, _⟩ := p3.shape
     have HCC := hid (show CAt wr (fun k => k < w5.heap.size) (.agg (cpCells d (.slice Ap d.path.length cp) (.slice Aq d.v.l.length cq) (.slice Ar d.v.o.length cr))) d from ⟨_, _, _, rfl, p1, p2, p3⟩)
     have e12 : ECp.size = 12 := rfl
     have g0 := hcell 0 _ rfl
     have g1 := hcell 1 _ rfl
     have g2 := hcell 2 _ rfl
     have g3 := hcell 3 _ rfl
     have g4 := hcell 4 _ rfl
     have g5 := hcell 5 _ rfl
     have g6 := hcell 6 _ rfl
     have g7 := hcell 7 _ rfl
     have g8 := hcell 8 _ rfl
     have g9 := hcell 9 _ rfl
     have g10 := hcell 10 _ rfl
     have g11 := hcell 11 _ rfl
     simp only [e12, Nat.add_zero] at g0 g1 g2 g3 g4 g5 g6 g7 g8 g9 g10 g11
     have hlen : ((cs.take j).map preF).length ≤ 20 := by rw [List.length_map, List.length_take]; have := HCL.out; omega
     have HLN := hid hlen
     clear hcell p1 p2 p3 e12 hj' hlen
     generalize (cs.take j).map preF = ta at *
     go_wp2_with fail
     refine (rcopy6 wr _ _ d HCC.out (by have := HFC.out.1; omega) (by have := HFC.out.2; omega)).mono ?_
     rintro e w6 ⟨pv2, lv2, ov2, rfl, ho1, hs2, hs3, hE6⟩
     obtain ⟨Bp, dp, rfl, hbl, hbm⟩ := ho1.shape
     obtain ⟨Bq, dq, rfl, _⟩ := hs2.shape
     obtain ⟨Br, dr, rfl, _⟩ := hs3.shape
     have hA : Ext w6 (w6.alloc (.cells #[U8 d.kind, .slice Bp d.path.length dp, .string d.key, .int .i64 d.i, .int .i64 d.j, .int .i64 d.n, U8 d.v.kind, .int .i64 d.v.n, .string d.v.s, .slice Bq d.v.l.length dq, .slice Br d.v.o.length dr, .string d.s] TCMP)) := (Keep.refl _ _).alloc _
     have HE7 := hid (hE6.ext hA)
     have HP7 := hid ((((ho1.sl ESt.ok).more (S' := fun q => wr.heap.size ≤ q ∧ q < w6.heap.size) ESt.ok fun q h h2 => h2.elim (fun h => h.elim) fun h3 => ⟨(ho1.lt h3).1, h⟩).ext ESt.ok hA))
     have HQ7 := hid ((hs2.more (S' := fun q => wr.heap.size ≤ q ∧ q < w6.heap.size) EVal.ok fun q h h2 => ⟨h2.1, h⟩).ext EVal.ok hA)
     have HR7 := hid ((hs3.more (S' := fun q => wr.heap.size ≤ q ∧ q < w6.heap.size) EField.ok fun q h h2 => ⟨h2.1, h⟩).ext EField.ok hA)
     have HB7 := hid (Blk.new w6 TCMP #[U8 d.kind, .slice Bp d.path.length dp, .string d.key, .int .i64 d.i, .int .i64 d.j, .int .i64 d.n, U8 d.v.kind, .int .i64 d.v.n, .string d.v.s, .slice Bq d.v.l.length dq, .slice Br d.v.o.length dr, .string d.s])
     have hz67 : (w6.alloc (.cells #[U8 d.kind, .slice Bp d.path.length dp, .string d.key, .int .i64 d.i, .int .i64 d.j, .int .i64 d.n, U8 d.v.kind, .int .i64 d.v.n, .string d.v.s, .slice Bq d.v.l.length dq, .slice Br d.v.o.length dr, .string d.s] TCMP)).heap.size = w6.heap.size + 1 := by simp
     have HZ67 := hid hz67
     have HW6 := hid hE6.size
     clear ho1 hs2 hs3 hE6 hA hz67 g0 g1 g2 g3 g4 g5 g6 g7 g8 g9 g10 g11
     go_upto_region 9 with fail
     change Code.wp _ _ _ _ (w6.alloc (.cells #[U8 d.kind, .slice Bp d.path.length dp, .string d.key, .int .i64 d.i, .int .i64 d.j, .int .i64 d.n, U8 d.v.kind, .int .i64 d.v.n, .string d.v.s, .slice Bq d.v.l.length dq, .slice Br d.v.o.length dr, .string d.s] TCMP))
     generalize (w6.alloc (.cells #[U8 d.kind, .slice Bp d.path.length dp, .string d.key, .int .i64 d.i, .int .i64 d.j, .int .i64 d.n, U8 d.v.kind, .int .i64 d.v.n, .string d.v.s, .slice Bq d.v.l.length dq, .slice Br d.v.o.length dr, .string d.s] TCMP)) = w7 at *
     have hE8 : Ext w7 (w7.alloc (.cells #[.bool false, .int .i64 0, .string ⟨#[102]⟩] TSTEP)) := (Keep.refl _ _).alloc _
     have HB8 := hid (HB7.out.keep hE8 id)
     have HP8 := hid (HP7.out.ext ESt.ok hE8)
     have HQ8 := hid (HQ7.out.ext EVal.ok hE8)
     have HR8 := hid (HR7.out.ext EField.ok hE8)
     have HOp := hid (own_step w7)
     have HE8 := hid (HE7.out.ext hE8)
     have hb8 := HB8.out
     have x1 := hb8.cell 1
     have f1 := hb8.frozen 1
     simp at x1
     clear hE8 hb8 HB7 HP7 HQ7 HR7 HE7
     go_wp2_with (at_builtin; refine wpList_own_append (P := Tryd.prog) (E := ESt) (v := .slice (some ⟨w7.heap.size, 0, none⟩) 1 1) (y := .slice Bp d.path.length dp) _ rfl (.tmp 45) (.tmp 47) ESt.ok ty_st rfl rfl rfl HOp.out HP8.out ?d1 ?d2 ?d3 ?d4 ?_)
     case d1 =>
      intro g hg
      have hg : w7.heap.size = g := by simpa [Value.ownBlock] using hg
      exact ⟨fun h => h.elim, fun h => by have := HZ67.out; omega⟩
     case d2 => have := HFC.out.1; simp only [List.length_singleton]; omega
     case d3 => have := HFC.out.1; simp only [List.length_singleton, maxLen]; omega
     case d4 => rw [World.size_alloc]; omega
     intro v' w8 hown hk hbk
     obtain ⟨A6, c6, rfl, hl6, hc6⟩ := hown.shape
     have hbl : ∀ q, (Value.slice (some ⟨w7.heap.size, 0, none⟩) 1 1).ownBlock = some q → w7.heap.size = q := fun q hq => by simpa [Value.ownBlock] using hq
     have h67 := HZ67.out
     have hk8 := hk.size
     rw [World.size_alloc] at hk8
     have HP9 := hid ((hown.sl ESt.ok).more (S' := fun q => wr.heap.size ≤ q ∧ q < w8.heap.size ∧ ¬ q = w6.heap.size) ESt.ok fun q h h2 => by
      rcases h2 with h2 | h2
      ·exact ⟨h2.1, h, by omega⟩
      ·exact ⟨by have := (hown.lt h2).1; have := HW6.out; omega, h, by have := (hown.lt h2).1; omega⟩)
     have HB9 := hid (HB8.out.keep hk (fun e => by have := hbl _ e; omega))
     have HQ9 := hid (HQ8.out.keep EVal.ok hk fun q h e => by have := hbl _ e; omega)
     have HR9 := hid (HR8.out.keep EField.ok hk fun q h e => by have := hbl _ e; omega)
     have hwr6 : wr.heap.size ≤ w6.heap.size := HW6.out
     have HK9 := hid (show Ext wr w8 from HE8.out.trans hk fun q hq e => by have := hbl _ e; omega)
     have HPL := hid (show (preF d).path = fSt :: d.path from rfl)
     obtain ⟨pl, hpl⟩ : ∃ pl, fSt :: d.path = pl := ⟨_, rfl⟩
     rw [hpl] at HP9 HPL ⊢
     have hb9 := HB9.out
     have x1 := hb9.cell 1
     have f1 := hb9.frozen 1
     simp at x1
     clear hown hk hbk hbl hl6 hc6 hb9 HB8 HP8 HQ8 HR8 HOp HE8 hpl
     go_upto_region 11 with fail
     have hk10 : Keep (· = w6.heap.size) w8 (w8.setCell ⟨w6.heap.size, 1, none⟩ (.slice A6 pl.length c6)) := (Keep.refl (· = w6.heap.size) w8).set1 1 _
     have HB10 := hid (show Blk (w8.setCell ⟨w6.heap.size, 1, none⟩ (.slice A6 pl.length c6)) w6.heap.size TCMP #[U8 d.kind, .slice A6 pl.length c6, .string d.key, .int .i64 d.i, .int .i64 d.j, .int .i64 d.n, U8 d.v.kind, .int .i64 d.v.n, .string d.v.s, .slice Bq d.v.l.length dq, .slice Br d.v.o.length dr, .string d.s] from HB9.out.set_ 1 _)
     have HN0 := hid (show ∀ q, (wr.heap.size ≤ q ∧ q < w6.heap.size) → ¬ q = w6.heap.size from fun q h e => by omega)
     have HQ10 := hid (HQ9.out.keep EVal.ok hk10 fun q h e => HN0.out q h e)
     have HR10 := hid (HR9.out.keep EField.ok hk10 fun q h e => HN0.out q h e)
     have HP10 := hid (HP9.out.keep ESt.ok hk10 fun q h e => h.2.2 e)
     have HK10 := hid (HK9.out.trans hk10 fun q hq e => by omega)
     clear hk10 HB9 HQ9 HR9 HP9 HK9 x1 f1
     change Code.wp _ _ _ _ (w8.setCell ⟨w6.heap.size, 1, none⟩ (.slice A6 pl.length c6))
     generalize (w8.setCell ⟨w6.heap.size, 1, none⟩ (.slice A6 pl.length c6)) = w9 at *
     have hwr9 := HK10.out.size
     obtain ⟨x0, x1, x2, x3, x4, x5, x6, x7, x8, x9, x10, x11⟩ := sq12 HB10.out
     have hE12 : Ext w9 (w9.alloc (.cells #[U8 d.kind, .slice A6 pl.length c6, .string d.key, .int .i64 d.i, .int .i64 d.j, .int .i64 d.n, U8 d.v.kind, .int .i64 d.v.n, .string d.v.s, .slice Bq d.v.l.length dq, .slice Br d.v.o.length dr, .string d.s] TCMP)) := (Keep.refl _ _).alloc _
     have HSrc := hid (show Sl ECp (w9.alloc (.cells #[U8 d.kind, .slice A6 pl.length c6, .string d.key, .int .i64 d.i, .int .i64 d.j, .int .i64 d.n, U8 d.v.kind, .int .i64 d.v.n, .string d.v.s, .slice Bq d.v.l.length dq, .slice Br d.v.o.length dr, .string d.s] TCMP)) (fun q => (wr.heap.size ≤ q ∧ q < w9.heap.size) ∨ q = w9.heap.size) (.slice (some ⟨w9.heap.size, 0, none⟩) 1 1) [preF d] from
      full_new2 (c := preF d) (S := fun q => wr.heap.size ≤ q ∧ q < w9.heap.size) (pv := .slice A6 pl.length c6) (lv := .slice Bq d.v.l.length dq) (ov := .slice Br d.v.o.length dr) (by rw [HPL.out]; exact HP10.out.more ESt.ok fun q h h2 => ⟨h2.1, h⟩) (HQ10.out.more EVal.ok fun q h h2 => ⟨h2.1, h⟩) (HR10.out.more EField.ok fun q h h2 => ⟨h2.1, h⟩))
     have HOa := hid (HOW.out.ext ECp.ok (HK10.out.ext hE12))
     have HKa := hid (HK10.out.ext hE12)
     clear hE12 HP10 HQ10 HR10 HK10 HPL h67
     go_wp2_with (at_builtin; refine wpList_own_append (P := Tryd.prog) (E := ECp) (v := .slice A4 ta.length c4) (y := .slice (some ⟨w9.heap.size, 0, none⟩) 1 1) _ rfl (.tmp 50) (.tmp 52) ECp.ok ty_cp rfl rfl rfl HOa.out HSrc.out ?e1 ?e2 ?e3 ?e4 ?_)
     case e1 => exact fun g hg => ⟨fun h => h.2.2 hg, fun h => by have := (HOW.out.lt hg).2; rcases h with h | h <;> omega⟩
     case e2 => have := HLN.out; simp only [List.length_singleton]; omega
     case e3 => have := HLN.out; simp only [List.length_singleton, maxLen]; omega
     case e4 => rw [World.size_alloc]; omega
     intro v' w10 hown hk hbk
     obtain ⟨A7, c7, rfl, hl7, hc7⟩ := hown.shape
     have hk12 := hk.size
     try rw [World.size_alloc] at hk12
     try rw [World.size_alloc] at hbk
     have HO10 := hid (ds_next (wr := wr) (N := w9.heap.size + 1) (lo := w5.heap.size) (S2 := fun q => (wr.heap.size ≤ q ∧ q < w9.heap.size) ∨ q = w9.heap.size) ECp.ok hown (by omega) hk12 (fun k h => by rcases h with h | h <;> omega) hkz (fun g hg => (HOW.out.lt hg).2) hbk)
     have HE10 := hid (show Ext w5 w10 from (HER.out.ext HKa.out).trans hk fun q hq e => by have := (HOW.out.lt e).1; omega)
     clear hown hk hbk hl7 hc7 hk12 HOa HSrc HKa x0 x1 x2 x3 x4 x5 x6 x7 x8 x9 x10 x11
     go_wp2
     go_roundw
     case rel => exact ⟨j + 1, by go_num, by omega, by rw [HTK.out]; exact HO10.out, HE10.out⟩
     case measure => simp [intOf]; omega
    ·obtain rfl : j = n := by omega
     have hltX : ¬ (j : Int) < j := by omega
     have hta : cs.take j = cs := List.take_of_length_le (by rw [HN.out]; exact Nat.le_refl _)
     have HMS := hid (show (cs.take j).map preF = cs.map preF from by rw [hta])
     have hml : ((cs.take j).map preF).length ≤ 1000 := by rw [List.length_map, List.length_take]; have := HCL.out; omega
     have hmf : ∀ c ∈ (cs.take j).map preF, Fit c := fun c hc => by
      obtain ⟨d, hd, rfl⟩ := List.mem_map.1 hc
      have := HCF.out d (List.mem_of_mem_take hd)
      refine ⟨?_, by show d.v.size ≤ 1000000; omega⟩
      show (fSt :: d.path).length ≤ 1000
      rw [List.length_cons]; omega
     have HML := hid hml
     have HMF := hid hmf
     have hemp : ((cs.take j).map preF).length = cs.length := by rw [hta, List.length_map]
     have HEMP := hid hemp
     clear hta hml hmf hemp
     generalize (cs.take j).map preF = ms at *
     have HO1 := hid ((HOW.out.sl ECp.ok).more (S' := fun q => q < wr.heap.size) ECp.ok fun q h _ => h)
     have hA : Ext wr (wr.alloc (.cells #[.int .u8 2, .int .u32 0, .int .u32 0, .int .u8 0, .int .i64 0, .string ⟨#[]⟩, .slice none 0 0, .slice none 0 0, .slice A4 ms.length c4] TENT)) := (Keep.refl _ _).alloc _
     have HBe := hid (Blk.new wr TENT #[.int .u8 2, .int .u32 0, .int .u32 0, .int .u8 0, .int .i64 0, .string ⟨#[]⟩, .slice none 0 0, .slice none 0 0, .slice A4 ms.length c4])
     have HO2 := hid ((HO1.out.ext ECp.ok hA).more (S' := fun _ => True) ECp.ok fun _ _ _ => trivial)
     have HE2 := hid (show Ext w (wr.alloc (.cells #[.int .u8 2, .int .u32 0, .int .u32 0, .int .u8 0, .int .i64 0, .string ⟨#[]⟩, .slice none 0 0, .slice none 0 0, .slice A4 ms.length c4] TENT)) from HEW.out.ext (HER.out.ext hA))
     clear hA HO1 HOW HCSr HCS
     go_upto_region 13 with fail
     change Code.wp _ _ _ _ (wr.alloc (.cells #[.int .u8 2, .int .u32 0, .int .u32 0, .int .u8 0, .int .i64 0, .string ⟨#[]⟩, .slice none 0 0, .slice none 0 0, .slice A4 ms.length c4] TENT))
     generalize (wr.alloc (.cells #[.int .u8 2, .int .u32 0, .int .u32 0, .int .u8 0, .int .i64 0, .string ⟨#[]⟩, .slice none 0 0, .slice none 0 0, .slice A4 ms.length c4] TENT)) = y1 at *
     have hZ : ∀ y : World, VAt y (fun _ => True) (.agg #[.int .u8 0, .int .i64 0, .string ⟨#[]⟩, .slice none 0 0, .slice none 0 0]) (.mk 0 0 ⟨#[]⟩ [] []) := fun y => ⟨_, _, rfl, Sl.nil _ _, Sl.nil _ _⟩
     have HZ := hid hZ
     clear hZ
     have e0 := HBe.out.cell 0
     have e1 := HBe.out.cell 1
     have e2 := HBe.out.cell 2
     have e3 := HBe.out.cell 3
     have e4 := HBe.out.cell 4
     have e5 := HBe.out.cell 5
     have e6 := HBe.out.cell 6
     have e7 := HBe.out.cell 7
     have e8 := HBe.out.cell 8
     simp at e0 e1 e2 e3 e4 e5 e6 e7 e8
     go_wp2_with fail
     refine (entry_edit _ _ _ (fun _ => True) 0 0 _ _ _ _ _ _ _ (.mk 0 0 ⟨#[]⟩ [] []) ms [⟨#[101]⟩, ⟨#[102]⟩] (HZ.out _) (by simp [V.size, V.sizes, F.sizes]) (HO2.out.ext ECp.ok ((Keep.refl _ _).alloc _)) (q_str2 _ _ _) HMF.out HML.out).mono ?_
     rintro e y2 ⟨lv1, ov1, op1, rfl, hv1, ho1, hE1⟩
     rw [show ms = cs.map preF from HMS.out, fil_all am_ef] at ho1
     rw [← HMS.out] at ho1
     obtain ⟨lv', ov', e, hl, ho⟩ := hv1
     simp at e
     obtain ⟨rfl, rfl⟩ := e
     obtain ⟨P1, p1, rfl, _⟩ := hl.shape
     obtain ⟨Q1, q1, rfl, _⟩ := ho.shape
     obtain ⟨R1, r1, rfl, _⟩ := ho1.shape
     have hEx : Ext y1 y2 := ((Keep.refl (fun _ => False) y1).alloc _).ext hE1
     have hA : Ext y2 (y2.alloc (.cells #[.int .u8 2, .int .u32 0, .int .u32 0, .int .u8 0, .int .i64 0, .string ⟨#[]⟩, .slice P1 0 p1, .slice Q1 0 q1, .slice R1 ms.length r1] TENT)) := (Keep.refl _ _).alloc _
     have HBx := hid (Blk.new y2 TENT #[.int .u8 2, .int .u32 0, .int .u32 0, .int .u8 0, .int .i64 0, .string ⟨#[]⟩, .slice P1 0 p1, .slice Q1 0 q1, .slice R1 ms.length r1])
     have HVx := hid (show VAt (y2.alloc (.cells #[.int .u8 2, .int .u32 0, .int .u32 0, .int .u8 0, .int .i64 0, .string ⟨#[]⟩, .slice P1 0 p1, .slice Q1 0 q1, .slice R1 ms.length r1] TENT)) (fun _ => True) (.agg #[.int .u8 0, .int .i64 0, .string ⟨#[]⟩, .slice P1 0 p1, .slice Q1 0 q1]) (.mk 0 0 ⟨#[]⟩ [] []) from ⟨_, _, rfl, (hl.ext EVal.ok hA), (ho.ext EField.ok hA)⟩)
     have HSx := hid (ho1.ext ECp.ok hA)
     replace HBe := hid (HBe.out.keep (hEx.ext hA) id)
     replace HO2 := hid (HO2.out.ext ECp.ok (hEx.ext hA))
     replace HE2 := hid (HE2.out.ext (hEx.ext hA))
     clear hEx hA hE1 hl ho ho1 e0 e1 e2 e3 e4 e5 e6 e7 e8
     go_upto_region 14 with fail
     change Code.wp _ _ _ _ (y2.alloc (.cells #[.int .u8 2, .int .u32 0, .int .u32 0, .int .u8 0, .int .i64 0, .string ⟨#[]⟩, .slice P1 0 p1, .slice Q1 0 q1, .slice R1 ms.length r1] TENT))
     generalize (y2.alloc (.cells #[.int .u8 2, .int .u32 0, .int .u32 0, .int .u8 0, .int .i64 0, .string ⟨#[]⟩, .slice P1 0 p1, .slice Q1 0 q1, .slice R1 ms.length r1] TENT)) = y3 at *
     have e0 := HBe.out.cell 0
     have e1 := HBe.out.cell 1
     have e2 := HBe.out.cell 2
     have e3 := HBe.out.cell 3
     have e4 := HBe.out.cell 4
     have e5 := HBe.out.cell 5
     have e6 := HBe.out.cell 6
     have e7 := HBe.out.cell 7
     have e8 := HBe.out.cell 8
     simp at e0 e1 e2 e3 e4 e5 e6 e7 e8
     go_wp2_with fail
     refine (entry_edit _ _ _ (fun _ => True) 0 0 _ _ _ _ _ _ _ (.mk 0 0 ⟨#[]⟩ [] []) ms [⟨#[101]⟩, ⟨#[103]⟩] (HZ.out _) (by simp [V.size, V.sizes, F.sizes]) (HO2.out.ext ECp.ok ((Keep.refl _ _).alloc _)) (q_str2 _ _ _) HMF.out HML.out).mono ?_
     rintro e y4 ⟨lv2, ov2, op2, rfl, hv2, ho2, hE2⟩
     rw [show ms = cs.map preF from HMS.out, fil_none am_eg] at ho2
     skip
     obtain ⟨lv', ov', e, hl, ho⟩ := hv2
     simp at e
     obtain ⟨rfl, rfl⟩ := e
     obtain ⟨P2, p2, rfl, _⟩ := hl.shape
     obtain ⟨Q2, q2, rfl, _⟩ := ho.shape
     obtain ⟨R2, r2, rfl, _⟩ := ho2.shape
     have hEx : Ext y3 y4 := ((Keep.refl (fun _ => False) y3).alloc _).ext hE2
     have hA : Ext y4 (y4.alloc (.cells #[.int .u8 2, .int .u32 0, .int .u32 0, .int .u8 0, .int .i64 0, .string ⟨#[]⟩, .slice P2 0 p2, .slice Q2 0 q2, .slice R2 ([] : List Cp).length r2] TENT)) := (Keep.refl _ _).alloc _
     have HBy := hid (Blk.new y4 TENT #[.int .u8 2, .int .u32 0, .int .u32 0, .int .u8 0, .int .i64 0, .string ⟨#[]⟩, .slice P2 0 p2, .slice Q2 0 q2, .slice R2 ([] : List Cp).length r2])
     have HVy := hid (show VAt (y4.alloc (.cells #[.int .u8 2, .int .u32 0, .int .u32 0, .int .u8 0, .int .i64 0, .string ⟨#[]⟩, .slice P2 0 p2, .slice Q2 0 q2, .slice R2 ([] : List Cp).length r2] TENT)) (fun _ => True) (.agg #[.int .u8 0, .int .i64 0, .string ⟨#[]⟩, .slice P2 0 p2, .slice Q2 0 q2]) (.mk 0 0 ⟨#[]⟩ [] []) from ⟨_, _, rfl, (hl.ext EVal.ok hA), (ho.ext EField.ok hA)⟩)
     have HSy := hid (ho2.ext ECp.ok hA)
     replace HBe := hid (HBe.out.keep (hEx.ext hA) id)
     replace HO2 := hid (HO2.out.ext ECp.ok (hEx.ext hA))
     replace HE2 := hid (HE2.out.ext (hEx.ext hA))
     replace HBx := hid (HBx.out.keep (hEx.ext hA) id)
     replace HVx := hid (HVx.out.ext (hEx.ext hA))
     replace HSx := hid (HSx.out.ext ECp.ok (hEx.ext hA))
     clear hEx hA hE2 hl ho ho2 e0 e1 e2 e3 e4 e5 e6 e7 e8
     go_upto_region 15 with fail
     change Code.wp _ _ _ _ (y4.alloc (.cells #[.int .u8 2, .int .u32 0, .int .u32 0, .int .u8 0, .int .i64 0, .string ⟨#[]⟩, .slice P2 0 p2, .slice Q2 0 q2, .slice R2 ([] : List Cp).length r2] TENT))
     generalize (y4.alloc (.cells #[.int .u8 2, .int .u32 0, .int .u32 0, .int .u8 0, .int .i64 0, .string ⟨#[]⟩, .slice P2 0 p2, .slice Q2 0 q2, .slice R2 ([] : List Cp).length r2] TENT)) = y5 at *
     have e0 := HBe.out.cell 0
     have e1 := HBe.out.cell 1
     have e2 := HBe.out.cell 2
     have e3 := HBe.out.cell 3
     have e4 := HBe.out.cell 4
     have e5 := HBe.out.cell 5
     have e6 := HBe.out.cell 6
     have e7 := HBe.out.cell 7
     have e8 := HBe.out.cell 8
     simp at e0 e1 e2 e3 e4 e5 e6 e7 e8
     have f0 := HBx.out.cell 0
     have f1 := HBx.out.cell 1
     have f2 := HBx.out.cell 2
     have f3 := HBx.out.cell 3
     have f4 := HBx.out.cell 4
     have f5 := HBx.out.cell 5
     have f6 := HBx.out.cell 6
     have f7 := HBx.out.cell 7
     have f8 := HBx.out.cell 8
     have h0 := HBy.out.cell 0
     have h1 := HBy.out.cell 1
     have h2 := HBy.out.cell 2
     have h3 := HBy.out.cell 3
     have h4 := HBy.out.cell 4
     have h5 := HBy.out.cell 5
     have h6 := HBy.out.cell 6
     have h7 := HBy.out.cell 7
     have h8 := HBy.out.cell 8
     simp at f0 h0 f1 h1 f2 h2 f3 h3 f4 h4 f5 h5 f6 h6 f7 h7 f8 h8
     go_wp2_with fail
     refine (rsame10_ok y5 _ _ _ _ 0 0 (.mk 0 0 ⟨#[]⟩ [] []) ms _ _ _ _ _ _ HVx.out (HZ.out _) HSx.out HO2.out).mono ?_
     rintro e y6 ⟨rfl, hE6⟩
     replace HBe := hid (HBe.out.keep hE6 id)
     replace HBy := hid (HBy.out.keep hE6 id)
     replace HO2 := hid (HO2.out.ext ECp.ok hE6)
     replace HE2 := hid (HE2.out.ext hE6)
     clear hE6 e0 e1 e2 e3 e4 e5 e6 e7 e8 f0 h0 f1 h1 f2 h2 f3 h3 f4 h4 f5 h5 f6 h6 f7 h7 f8 h8 HBx HVx HSx HVy HSy HML HMF HZ
     have e0 := HBe.out.cell 0
     have e1 := HBe.out.cell 1
     have e2 := HBe.out.cell 2
     have e3 := HBe.out.cell 3
     have e4 := HBe.out.cell 4
     have e5 := HBe.out.cell 5
     have e6 := HBe.out.cell 6
     have e7 := HBe.out.cell 7
     have e8 := HBe.out.cell 8
     have h0 := HBy.out.cell 0
     have h1 := HBy.out.cell 1
     have h2 := HBy.out.cell 2
     have h3 := HBy.out.cell 3
     have h4 := HBy.out.cell 4
     have h5 := HBy.out.cell 5
     have h6 := HBy.out.cell 6
     have h7 := HBy.out.cell 7
     have h8 := HBy.out.cell 8
     simp at e0 e1 e2 e3 e4 e5 e6 e7 e8 h0 h1 h2 h3 h4 h5 h6 h7 h8
     have hA1 : Ext y6 (y6.alloc (.cells #[.string ⟨#[102]⟩] 9)) := (Keep.refl _ _).alloc _
     go_wp2_with fail
     refine (within_edit _ _ _ _ _ _ _ _ _ _ _ _ ms [⟨#[102]⟩] (HO2.out.ext ECp.ok hA1) (q_str _ _)).mono ?_
     rintro e y7 ⟨rfl, hE7⟩
     rw [show ms = cs.map preF from HMS.out, any_none am_f, ← HMS.out]
     replace HBe := hid (HBe.out.keep (hA1.ext hE7) id)
     replace HO2 := hid (HO2.out.ext ECp.ok (hA1.ext hE7))
     replace HE2 := hid (HE2.out.ext (hA1.ext hE7))
     clear hE7 hA1 e0 e1 e2 e3 e4 e5 e6 e7 e8 h0 h1 h2 h3 h4 h5 h6 h7 h8 HBy
     have e0 := HBe.out.cell 0
     have e1 := HBe.out.cell 1
     have e2 := HBe.out.cell 2
     have e3 := HBe.out.cell 3
     have e4 := HBe.out.cell 4
     have e5 := HBe.out.cell 5
     have e6 := HBe.out.cell 6
     have e7 := HBe.out.cell 7
     have e8 := HBe.out.cell 8
     simp at e0 e1 e2 e3 e4 e5 e6 e7 e8
     have hA2 : Ext y7 (y7.alloc (.cells #[.string ⟨#[103]⟩] 9)) := (Keep.refl _ _).alloc _
     go_wp2_with fail
     refine (within_edit _ _ _ _ _ _ _ _ _ _ _ _ ms [⟨#[103]⟩] (HO2.out.ext ECp.ok hA2) (q_str _ _)).mono ?_
     rintro e y8 ⟨rfl, hE8⟩
     rw [show ms = cs.map preF from HMS.out, any_all am_g, ← HMS.out]
     replace HE2 := hid (HE2.out.ext (hA2.ext hE8))
     clear hE8 e0 e1 e2 e3 e4 e5 e6 e7 e8 hA2 HO2 HBe
     have hm := HEMP.out
     clear HEMP HMS
     cases cs with
     | nil =>
      have hm0 : ms.length = 0 := by simpa using hm
      rw [hm0]
      clear hm
      rw [show (!!([] : List Cp).isEmpty) = true from rfl]
      go_wp2
      go_ret
      exact ⟨rfl, HE2.out⟩
     | cons c0 l0 =>
      have hm0 : ms.length = l0.length + 1 := by simpa using hm
      have hm1 : ¬ ((l0.length + 1 : Nat) : Int) = 0 := by omega
      rw [hm0]
      clear hm
      rw [show (!!(c0 :: l0).isEmpty) = false from rfl]
      go_wp2
      go_ret
      exact ⟨rfl, HE2.out⟩
end Go.Proofs.YtggkidnlmaindaaDoor
namespace Go.Proofs.YtggkidnlmaindaaDoor
open Go.ChangeShapes Go.WideShapes Go.ChangeAt Go.RowKit Go.Deep
theorem dec_laid7 {w0 : World} {l : List (String × DataW Unit)} (h : laidMetH Tryd.prog l w0) (hp : l = [("unicode/utf8.acceptRanges", Rows.laid_unicode_utf8_acceptRanges), ("unicode/utf8.first", Rows.laid_unicode_utf8_first)]) : DecAny w0 := by
 subst hp
 rw [MakeChecks.laidMetH_plain _ _ _ (by kernel_rfl)] at h
 have e1 : (Rows.laid_unicode_utf8_first : DataW Unit) = Lib.firstData := by kernel_rfl
 have e2 : (Rows.laid_unicode_utf8_acceptRanges : DataW Unit) = Lib.acceptData := by kernel_rfl
 have h3 : Lib.VarReads Tryd.prog w0 "unicode/utf8.first" Lib.firstData := by rw [← e1]; exact Lib.laidMet.reads h (.tail _ (.head _))
 have h4 : Lib.VarReads Tryd.prog w0 "unicode/utf8.acceptRanges" Lib.acceptData := by rw [← e2]; exact Lib.laidMet.reads h (.head _)
 exact dec_any (utf8Tabs_of_readsT { Tryd.laysDR with } ⟨by kernel_rfl, by kernel_rfl, by kernel_rfl, by kernel_rfl, by kernel_rfl, by kernel_rfl, by kernel_rfl⟩ h3 h4)
theorem all18_lift {Q R T : Prop} (lv : Value) (l : List Tk) (av : Value) (a : List Ac) (pick : Int) (w : World) (h0 : Sl ETok w (fun k => k < w.heap.size) lv l) (q0 : Q) (h1 : Sl EAc w (fun k => k < w.heap.size) av a) (q1 : R ∧ ∀ x ∈ a, Wfa x) (q2 : T) (hT : ValAny w ∧ DecAny w) :
  Calls Tryd.prog 7 #[lv, av, .int .u8 pick] w fun e w' => e = .returned (.bool true) ∧ Below w.heap.size w w' :=
 (all18_ok w _ _ lv av _ l a h0 h1 q1.2 hT.1 hT.2).mono fun e w' h => ⟨h.1, h.2.toBelow⟩
end Go.Proofs.YtggkidnlmaindaaDoor
