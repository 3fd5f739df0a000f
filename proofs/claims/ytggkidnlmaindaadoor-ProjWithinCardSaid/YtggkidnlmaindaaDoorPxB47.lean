/- Oth, ProjW, ProjWL: laid together. -/
import Derived.Test.YtggkidnlmaindaaDoorPxB39
import Derived.Test.YtggkidnlmaindaaDoorPxB44
import Derived.Test.YtggkidnlmaindaaDoorPxB15
import Derived.Test.YtggkidnlmaindaaDoorPxB36
import Derived.Test.YtggkidnlmaindaaDoorPxB14
set_option linter.unusedSimpArgs false
set_option linter.unusedVariables false
set_option maxHeartbeats 25600000
set_option maxRecDepth 20000
namespace Go.Proofs.YtggkidnlmaindaaDoor
open Go.RowKit
def OneF (lo : Nat) (B : BS) (y : F) (v : Value) (w : World) : Prop := ∃ c cs, v = .slice c 1 1 ∧ RowS w (fun k => lo ≤ k) 6 v 1 cs ∧ Cells EField w B cs [y]
theorem OneF.ext {lo : Nat} {B : BS} {y : F} {v : Value} {w w' : World} (h : OneF lo B y v w) (he : Ext w w') : OneF lo B y v w' := by
 obtain ⟨c, cs, h0, h1, h2⟩ := h; exact ⟨c, cs, h0, h1.ext he, h2.keep EField.ok he fun _ _ x => x⟩
def OthIs (lo : Nat) (W1 wr : World) (b : Nat) (xs : List F) (fs : List ByteArray) (j : Nat) : Prop := ∃ X, Blk wr b TVAL #[.int .u8 5, .int .i64 0, .string ⟨#[]⟩, .slice none 0 0, X] ∧ Own EField wr W1.heap.size TFIELD (fun k => k < lo) X ((xs.take j).filter fun f => !inB fs f.key) ∧ Keep (· = b) W1 wr
set_option maxRecDepth 100000 in
theorem others_ok (w : World) (S S2 : BS) (u fv : Value) (v : V) (fs : List ByteArray) (hv : VAt w S u v) (hsz : v.size ≤ 1000000) (hs : Sl EStr w S2 fv fs) :
  Calls Tryd.prog 24 #[u, fv] w (ProjIs w (othersV v fs)) := by
 have hvo : v.o.length ≤ 1000000 := by have := V.size_eq v; have := F.sizes_len v.o; omega
 have HS := hid (hs.more EStr.ok (S' := fun q => q < w.heap.size) fun k hk _ => hk)
 obtain ⟨lv, ov, rfl, hl, ho⟩ := hv
 have HO := hid (ho.more EField.ok (S' := fun q => q < w.heap.size) fun k hk _ => hk)
 obtain ⟨A, c, rfl, hlc, hcm⟩ := hl.shape
 obtain ⟨A', c', rfl, hlc', hcm'⟩ := ho.shape
 obtain ⟨B, d, rfl, hsc, hsm⟩ := hs.shape
 unfold maxLen at hsm
 clear hl ho hs hsz hlc hcm
 obtain ⟨W0, hW0⟩ : ∃ W0, (w.alloc (.cells (vC v A c A' c') TVAL)).alloc (.cells #[.int .u8 0, .int .i64 0, .string ⟨#[]⟩, .slice none 0 0, .slice none 0 0] TVAL) = W0 := ⟨_, rfl⟩
 obtain ⟨hb0, hb1, hE0⟩ := blk_pair w TVAL (vC v A c A' c') #[.int .u8 0, .int .i64 0, .string ⟨#[]⟩, .slice none 0 0, .slice none 0 0]
 rw [hW0] at hb0 hb1 hE0
 have hz0 : W0.heap.size = w.heap.size + 1 + 1 := by rw [← hW0]; simp
 have HE0 := hid hE0
 have HB1 := hid hb1
 have HB00 := hid hb0
 have HZ0 := hid hz0
 clear hE0 hb0 hb1 hz0
 obtain ⟨nf, hnf⟩ : ∃ nf, fs.length = nf := ⟨_, rfl⟩
 have HNF := hid hnf
 rw [hnf] at hsc HS ⊢
 clear hnf
 go_enter Tryd.func24, Tryd.ntmps24
 go_wp2_with fail
 obtain ⟨W1, hW1⟩ : ∃ W1, W0.alloc (.cells #[.int .u8 5, .int .i64 0, .string ⟨#[]⟩, .slice none 0 0, .slice none 0 0] TVAL) = W1 := ⟨_, rfl⟩
 have hE1 : Ext W0 W1 := by rw [← hW1]; exact (Keep.refl _ _).alloc _
 have hbt : Blk W1 W0.heap.size TVAL #[.int .u8 5, .int .i64 0, .string ⟨#[]⟩, .slice none 0 0, .slice none 0 0] := by rw [← hW1]; exact Blk.new _ _ _
 have hz1 : W1.heap.size = W0.heap.size + 1 := by rw [← hW1]; simp
 rw [hW1]
 have HE1 := hid hE1
 have HB0 := hid (HB00.out.keep hE1 id)
 have HBT := hid hbt
 have HZ1 := hid hz1
 clear hE1 hbt hz1
 clear hW0 hW1
 go_loopw [6, 7, 8] (fun y _ _ wr => ∃ j : Nat, j ≤ v.o.length ∧ y = .int .i64 j ∧ OthIs w.heap.size W1 wr W0.heap.size v.o fs j) (fun y _ _ _ => v.o.length - (intOf y).toNat)
 case atStart => exact ⟨0, by omega, rfl, _, HBT.out, Own.nil _ _ _ _, Keep.refl _ _⟩
 case round =>
  obtain ⟨j, hj, rfl, X, hbx, hown, hr⟩ := hrel
  obtain ⟨A4, c4, rfl, hl4, hc4⟩ := hown.shape
  have hb0 := HB0.out.keep hr (by have := HZ0.out; omega)
  have x4 := hb0.cell 4
  simp only [List.getElem?_toArray, List.getElem?_cons_succ, List.getElem?_cons_zero] at x4
  have HBX := hid hbx
  have HOW := hid hown
  have HR := hid hr
  by_cases hlt : j < v.o.length
  ·have hvw := ((HO.out.ext EField.ok HE0.out).ext EField.ok HE1.out).keep EField.ok hr (fun q h e => by have := HZ0.out; omega)
   obtain ⟨b1, f1, d1, rfl, _, _, hr1, hc1⟩ := hvw.at_ EField.ok hlt
   have HRD := hid hr1
   obtain ⟨lv1, ov1, rfl, ⟨D1, g1, rfl⟩, ⟨D2, g2, rfl⟩, hva⟩ := EField_cells hr1
   have HTS := hid (take_succ_get v.o j hlt)
   have p0 := hc1 0 _ rfl
   have p1 := hc1 1 _ rfl
   have p2 := hc1 2 _ rfl
   have p3 := hc1 3 _ rfl
   have p4 := hc1 4 _ rfl
   have p5 := hc1 5 _ rfl
   have e5 : EField.size = 6 := rfl
   simp only [e5, Nat.add_zero] at p0 p1 p2 p3 p4 p5
   have hjX : (j : Int) < v.o.length := by omega
   have HSR := hid (((HS.out.ext EStr.ok HE0.out).ext EStr.ok HE1.out).keep EStr.ok hr (fun q h e => by have := HZ0.out; omega))
   clear hc1 hr1 hva e5 hown hr hbx hb0 hvw
   generalize v.o[j] = y at *
   generalize wr = w2 at *
   go_wp2_with fail
   go_loopw [7, 8] (fun q i wq => ∃ k : Nat, k ≤ nf ∧ i = .int .i64 k ∧ q = .bool (inB (fs.take k) y.key) ∧ Ext w2 wq) (fun _ i _ => nf - (intOf i).toNat)
   case atStart => exact ⟨0, by omega, rfl, rfl, Keep.refl _ _⟩
   case round =>
    obtain ⟨k, hk, rfl, rfl, hEq⟩ := hrel
    have HEQ := hid hEq
    have x4' := (hEq.cell (lt_of_cell x4) id).trans x4
    have p0' := (hEq.cell (lt_of_cell p0) id).trans p0
    by_cases hkl : k < nf
    ·have hk' : k < fs.length := by rw [HNF.out]; exact hkl
     obtain ⟨bs, os, cs, rfl, _, _, hrs, hcs⟩ := (HSR.out.ext EStr.ok hEq).at_ EStr.ok hk'
     have hrs : cs = [.string fs[k]] := hrs
     subst hrs
     have s0 := hcs 0 _ rfl
     have e1 : EStr.size = 1 := rfl
     simp only [e1, Nat.mul_one, Nat.add_zero] at s0
     have HNB := hid (inB_snoc (k := y.key) hk')
     have hkX : (k : Int) < nf := by omega
     clear hcs e1 hEq
     generalize fs[k] = fk at *
     cases hin : inB (fs.take k) y.key with
     | true =>
      rw [hin, Bool.true_or] at HNB
      clear s0 x4' p0'
      go_wp2_with fail
      refine wp_region_grow (specOf []) (fun w' => Ext w2 w') stable_nil (stableC_ext _) (by kernel_rfl) (by kernel_rfl) (Keep.drew HEQ.out) ?_
      iterate 2
       (try simp only [Act.put, sqa, sqb, sqc])
       refine grow_run rfl rfl rfl ?_
       apply Exists.intro
       refine ⟨fun w' hC hK => ?_, ?_⟩
       ·go_simp
        rfl
      iterate 11
       (try simp only [Act.put, sqa, sqb, sqc])
       with_reducible refine grow_skip ?_ ?_ ?_
       ·rfl
       ·rfl
      iterate 2
       (try simp only [Act.put, sqa, sqb, sqc])
       refine grow_run rfl rfl rfl ?_
       apply Exists.intro
       refine ⟨fun w' hC hK => ?_, ?_⟩
       ·go_simp
        rfl
      refine grow_nil fun w5 hC _ => ?_
      have HE5 := hid (show Ext w2 w5 from hC)
      clear hC
      go_wp2_with fail
      exact ⟨⟨k + 1, by omega, by go_num, by rw [HNB.out], HE5.out⟩, by simp [intOf]; omega⟩
     | false =>
      rw [hin, Bool.false_or] at HNB
      go_wp2_with fail
      refine wp_region_grow (specOf []) (fun w' => Ext wr w') stable_nil (stableC_ext _) (by kernel_rfl) (by kernel_rfl) (Keep.drew (Keep.refl _ _)) ?_
      iterate 15
       (try simp only [Act.put, sqa, sqb, sqc])
       refine grow_run rfl rfl rfl ?_
       apply Exists.intro
       refine ⟨fun w' hC hK => ?_, ?_⟩
       ·have s0 := sqw hC s0
        have x4' := (hC.cell (lt_of_cell x4') id).trans x4'
        have p0' := (hC.cell (lt_of_cell p0') id).trans p0'
        go_simp
        rfl
      refine grow_nil fun w5 hC _ => ?_
      have HE5 := hid (HEQ.out.ext (show Ext wr w5 from hC))
      clear hC s0 x4' p0'
      go_wp2_with fail
      exact ⟨⟨k + 1, by omega, by go_num, by rw [HNB.out], HE5.out⟩, by simp [intOf]; omega⟩
    ·obtain rfl : k = nf := by omega
     have hkX : ¬ (k : Int) < k := by omega
     rw [show fs.take k = fs from List.take_of_length_le (by rw [HNF.out]; exact Nat.le_refl _)]
     have HRW := hid (HR.out.ext hEq)
     cases hin : inB fs y.key with
     | true =>
      have hf : (v.o.take (j + 1)).filter (fun f => !inB fs f.key) = (v.o.take j).filter (fun f => !inB fs f.key) := by
       rw [HTS.out, List.filter_append]; simp [hin]
      have HP := hid (show OthIs w.heap.size W1 wr W0.heap.size v.o fs (j + 1) from ⟨_, HBX.out.keep hEq id, by rw [hf]; exact HOW.out.ext EField.ok hEq, HRW.out⟩)
      clear hEq hf p0 p1 p2 p3 p4 p5 x4 x4' p0'
      go_wp2
      exact ⟨⟨j + 1, by omega, by go_num, HP.out⟩, by simp [intOf]; omega⟩
     | false =>
      have hf : (v.o.take (j + 1)).filter (fun f => !inB fs f.key) = (v.o.take j).filter (fun f => !inB fs f.key) ++ [y] := by
       rw [HTS.out, List.filter_append]; simp [hin]
      have hln : ((v.o.take j).filter fun f => !inB fs f.key).length ≤ j := by
       have := List.length_filter_le (fun f => !inB fs f.key) (v.o.take j)
       rw [List.length_take] at this; omega
      have HF := hid hf
      have HLN := hid hln
      have HO2 := hid (HOW.out.ext EField.ok hEq)
      have HBX2 := hid (HBX.out.keep hEq id)
      have HRD2 := hid (EField.ok.keep HRD.out hEq fun _ _ x => x)
      have p1' := (hEq.cell (lt_of_cell p1) id).trans p1
      have p2' := (hEq.cell (lt_of_cell p2) id).trans p2
      have p3' := (hEq.cell (lt_of_cell p3) id).trans p3
      have p4' := (hEq.cell (lt_of_cell p4) id).trans p4
      have p5' := (hEq.cell (lt_of_cell p5) id).trans p5
      have t4 := HBX2.out.cell 4
      simp only [List.getElem?_toArray, List.getElem?_cons_succ, List.getElem?_cons_zero] at t4
      clear x4 p0 p1 p2 p3 p4 p5 hEq hf hln HBX HOW HR HSR HRD
      generalize (v.o.take j).filter (fun f => !inB fs f.key) = ta at *
      generalize wr = w3 at *
      go_wp2_with fail
      refine wp_region_parts [0, 2, 4] [1, 3, 5, 6, 7] [8, 9, 10] (specOf [(7, OneF w3.heap.size (fun q => q < w.heap.size) y)])
       (fun w' => Ext w3 w') ?_ (stableC_ext _) (by kernel_rfl) (by kernel_rfl) (Keep.drew (Keep.refl _ _)) ?_
      ·exact stable_cons (fun v w w' h he => h.ext he) stable_nil
      iterate 3
       (try simp only [Act.put, sqa, sqb, sqc])
       refine pure_run rfl rfl ?_
       apply Exists.intro
       refine ⟨fun w' => ?_, ?_⟩
       ·go_simp
        rfl
      refine pure_nil ?_
      iterate 4
       (try simp only [Act.put, sqa, sqb, sqc])
       refine growP_run rfl rfl rfl ?_
       apply Exists.intro
       refine ⟨fun w' hC hK => ?_, ?_⟩
       ·have x4' := (hC.cell (lt_of_cell x4') id).trans x4'
        have t4 := sqw hC t4
        have p0' := (hC.cell (lt_of_cell p0') id).trans p0'
        have p1' := (hC.cell (lt_of_cell p1') id).trans p1'
        have p2' := (hC.cell (lt_of_cell p2') id).trans p2'
        have p3' := (hC.cell (lt_of_cell p3') id).trans p3'
        have p4' := (hC.cell (lt_of_cell p4') id).trans p4'
        have p5' := (hC.cell (lt_of_cell p5') id).trans p5'
        go_simp
        rfl
      (try simp only [Act.put, sqa, sqb, sqc])
      refine growP_eff rfl rfl rfl (fun w' hC hK => ?_) (fun v7 hv7 => ?_)
      ·unfold growAt
       go_simp
       exact ⟨(Keep.refl _ _).alloc _, _, [_, _, _, _, _, _], rfl, (RowS.new (sz := 6) (cs := [_, _, _, _, _, _]) (n := 1) rfl (by simp [maxLen])).more fun k _ e => by have := hC.size; omega, Cells.single (EField.ok.keep (EField.ok.keep HRD2.out hC fun _ _ x => x) ((Keep.refl _ _).alloc _) fun _ _ x => x)⟩
      obtain ⟨_, _, c10, _, rfl, _⟩ := hv7.head
      refine growP_nil fun w4 hC hK => ?_
      obtain ⟨_, csx, e10, hrs, hcs⟩ : OneF w3.heap.size (fun q => q < w.heap.size) y (.slice c10 1 1) w4 := hK (7, _) List.mem_cons_self
      change wpList _ _ _ (_ :: _ :: _ :: []) _ _
      have hC' : Ext w3 w4 := hC
      have hO4 := HO2.out.ext EField.ok hC'
      have HC4 := hid hC'
      clear hC hC' hK hv7 x4' t4 p0' p1' p2' p3' p4' p5' e10
      (try simp only [Act.put, sqa, sqb, sqc])
      refine wpList_own_append2 (P := Tryd.prog) (E := EField) (v := .slice A4 ta.length c4) (y := .slice c10 1 1) (ys := [y]) w4 rfl (.tmp 40) (.tmp 46) EField.ok ty_field ?_ ?_ ?_ hO4 hrs hcs ?_ ?_ ?_ (Nat.le_trans HRW.out.size HC4.out.size) ?_
      ·rfl
      ·rfl
      ·rfl
      ·exact fun g hg => ⟨fun h => by have := (HO2.out.lt hg).1; have := HZ0.out; have := HZ1.out; omega, fun h => by have := (HO2.out.lt hg).1; have := HZ0.out; have := HZ1.out; omega⟩
      ·have := HLN.out; simp only [List.length_singleton]; omega
      ·have := HLN.out; simp only [List.length_singleton, maxLen]; omega
      intro v' w' hown' hk hb
      obtain ⟨A7, c7, rfl, hl7, hc7⟩ := hown'.shape
      have HT5 := hid ((HBX2.out.keep HC4.out id).keep hk (fun e => by have := (HO2.out.lt (show (Value.slice A4 ta.length c4).ownBlock = some W0.heap.size from e)).1; have := HZ1.out; omega))
      have HK5 := hid (show Keep (· = W0.heap.size) W1 w' from (HRW.out.ext HC4.out).trans hk fun k hlt e => by
       have := (HO2.out.lt (show (Value.slice A4 ta.length c4).ownBlock = some k from e)).1; omega)
      have HO3 := hid (hown'.more (S' := fun k => k < w.heap.size) EField.ok fun k _ h => by rcases h with h | h <;> exact h)
      have t4 := HT5.out.cell 4
      have hfz := HT5.out.frozen
      simp only [List.getElem?_toArray, List.getElem?_cons_succ, List.getElem?_cons_zero] at t4
      clear hown' hk hb hO4 hrs hcs HC4
      generalize hm : (ta ++ [y]).length = m at *
      have HP := hid (show OthIs w.heap.size W1 (w'.setCell ⟨W0.heap.size, 4, none⟩ (.slice A7 m c7)) W0.heap.size v.o fs (j + 1) from by
       have hka : Keep (· = W0.heap.size) w' (w'.setCell ⟨W0.heap.size, 4, none⟩ (.slice A7 m c7)) := (Keep.refl _ _).set1 4 _
       refine ⟨.slice A7 m c7, HT5.out.set_ 4 _, ?_, HK5.out.trans hka fun _ _ e => e⟩
       rw [HF.out]
       exact HO3.out.keep EField.ok hka (fun q h e => by have := HZ0.out; omega) (fun q h e => by have := (HO3.out.lt h).1; have := HZ1.out; omega))
      (try simp only [Act.put, sqa, sqb, sqc])
      go_wp2_with fail
      refine NoPanic.normal ?_
      go_wp2
      exact ⟨⟨j + 1, by omega, by go_num, HP.out⟩, by simp [intOf]; omega⟩
  ·obtain rfl : j = v.o.length := by omega
   rw [List.take_length] at *
   generalize hX : (v.o.filter fun f => !inB fs f.key) = ys at *
   have HY := hid hX
   have hR := (HB1.out.keep HE1.out id).keep hr (by have := HZ0.out; omega)
   have HOW2 := hid hown
   have HR4 := hid hR
   have HKW := hid (show Keep (fun k => w.heap.size ≤ k) w wr from (((Keep.refl (fun k => w.heap.size ≤ k) w).ext HE0.out).ext HE1.out).trans hr fun k _ h => by have := HZ0.out; omega)
   have t0 := hbx.cell 0
   have t1 := hbx.cell 1
   have t2 := hbx.cell 2
   have t3 := hbx.cell 3
   have t4 := hbx.cell 4
   have z0 := hR.cell 0
   have z1 := hR.cell 1
   have z2 := hR.cell 2
   have z3 := hR.cell 3
   have z4 := hR.cell 4
   simp only [List.getElem?_toArray, List.getElem?_cons_succ, List.getElem?_cons_zero] at t0 t1 t2 t3 t4 z0 z1 z2 z3 z4
   have hfz := hR.frozen
   clear hown hr hbx hb0 hR hX HBX HOW
   go_wp2_with fail
   obtain ⟨Wf, hWf⟩ : ∃ Wf, set5 wr (w.heap.size + 1) 0 (.int .u8 5) (.int .i64 0) (.string ⟨#[]⟩) (.slice none 0 0) (.slice A4 ys.length c4) = Wf := ⟨_, rfl⟩
   change bodyPost _ _ _ _ _ (set5 wr (w.heap.size + 1) 0 (.int .u8 5) (.int .i64 0) (.string ⟨#[]⟩) (.slice none 0 0) (.slice A4 ys.length c4))
   have hf := set5_full HR4.out (.int .u8 5) (.int .i64 0) (.string ⟨#[]⟩) (.slice none 0 0) (.slice A4 ys.length c4)
   have hk := set5_keep wr (w.heap.size + 1) 0 (.int .u8 5) (.int .i64 0) (.string ⟨#[]⟩) (.slice none 0 0) (.slice A4 ys.length c4)
   rw [hWf] at hf hk ⊢
   have f0 := hf.cell 0
   have f1 := hf.cell 1
   have f2 := hf.cell 2
   have f3 := hf.cell 3
   have f4 := hf.cell 4
   simp only [List.getElem?_toArray, List.getElem?_cons_succ, List.getElem?_cons_zero] at f0 f1 f2 f3 f4
   have hs0 := HZ0.out
   have hs1 := HZ1.out
   have hKW : Ext w Wf := (HKW.out.trans hk fun k _ h => by omega).mono fun k h1 h2 => by omega
   refine bodyPost_ret (v := .agg #[.int .u8 5, .int .i64 0, .string ⟨#[]⟩, .slice none 0 0, .slice A4 ys.length c4]) (by simp [results, Tryd.results24, go_sem, f0, f1, f2, f3, f4]) rfl ⟨_, rfl, ?_, hKW⟩
   rw [othersV, HY.out]
   exact VAt.fields (HOW2.out.keep EField.ok hk (fun q h e => by omega) (fun q h e => by have := (HOW2.out.lt h).1; omega))
theorem within18_ok (w : World) (S S1 : BS) (lv ru : Value) (pick : Int) (ts : List Tk) (r : Rc) (hl : Sl ETok w S lv ts) (hr : RcAt w S1 ru r) (hp : (Lit.int .u16 pick).wf = true) (hwf : ∀ a ∈ r.acts, Wfa a) (hva : ValAny w) (hD : DecAny w) :
  Calls Tryd.prog 5 #[lv, ru, .int .u16 pick] w fun e w' => e = .returned (.bool true) ∧ Ext w w' := by
 obtain ⟨A, c, rfl, hlc, hcm⟩ := hl.shape
 obtain ⟨vv, ov, av, rfl, h1, h2, h3⟩ := hr
 obtain ⟨A3, c3, rfl, _⟩ := h1.shape
 obtain ⟨A4, c4, rfl, _⟩ := h2.shape
 obtain ⟨A5, c5, rfl, _⟩ := h3.shape
 have hE0 : Ext w (w.alloc (.cells #[U8 r.kind, .int .u32 r.src, .int .u32 r.seq, .slice A3 r.v.length c3, .slice A4 r.op.length c4, .slice A5 r.acts.length c5, .bool r.sound] TREC)) := (Keep.refl _ _).alloc _
 have HBR := hid (Blk.new w TREC #[U8 r.kind, .int .u32 r.src, .int .u32 r.seq, .slice A3 r.v.length c3, .slice A4 r.op.length c4, .slice A5 r.acts.length c5, .bool r.sound])
 have HL := hid (hl.ext ETok.ok hE0)
 have HRC := hid (show RcAt (w.alloc (.cells #[U8 r.kind, .int .u32 r.src, .int .u32 r.seq, .slice A3 r.v.length c3, .slice A4 r.op.length c4, .slice A5 r.acts.length c5, .bool r.sound] TREC)) S1 (.agg #[U8 r.kind, .int .u32 r.src, .int .u32 r.seq, .slice A3 r.v.length c3, .slice A4 r.op.length c4, .slice A5 r.acts.length c5, .bool r.sound]) r from ⟨_, _, _, rfl, h1.ext ETok.ok hE0, h2.ext EBr.ok hE0, h3.ext EAc.ok hE0⟩)
 have HEW := hid hE0
 have HVA := hid hva
 have HD := hid hD
 have HWF := hid hwf
 have HP := hid hp
 have HEND := hid (show ∀ wx, Ext w wx → Calls Tryd.prog 9 #[] wx fun e w' => e = .returned (.bool true) ∧ Ext w w' from fun wx h => (known18_ok w wx hva h).mono fun e w' h2 => ⟨h2.1, h.ext h2.2⟩)
 clear hl h1 h2 h3 hE0 hva hD hwf hp hlc hcm
 go_enter Tryd.func5, Tryd.ntmps5
 go_upto_region 1 with fail
 change Code.wp _ _ _ _ (w.alloc (.cells #[U8 r.kind, .int .u32 r.src, .int .u32 r.seq, .slice A3 r.v.length c3, .slice A4 r.op.length c4, .slice A5 r.acts.length c5, .bool r.sound] TREC))
 generalize (w.alloc (.cells #[U8 r.kind, .int .u32 r.src, .int .u32 r.seq, .slice A3 r.v.length c3, .slice A4 r.op.length c4, .slice A5 r.acts.length c5, .bool r.sound] TREC)) = W0 at *
 obtain ⟨r0, r1, r2, r3, r4, r5, r6⟩ := blk7 HBR.out
 go_wp2_with fail
 refine (heavy18_any W0 _ _ _ _ ts r HL.out HRC.out).mono ?_
 rintro e w1 ⟨b1, rfl, hE⟩
 replace HL := hid (HL.out.ext ETok.ok hE)
 replace HRC := hid (HRC.out.ext hE)
 replace HBR := hid (HBR.out.keep hE id)
 replace HEW := hid (HEW.out.ext hE)
 clear hE r0 r1 r2 r3 r4 r5 r6
 cases b1 with
 | true =>
  go_wp2_with fail
  refine (HEND.out _ HEW.out).mono ?_
  rintro e w2 ⟨rfl, hz⟩
  have HZ := hid hz
  clear hz
  go_wp2
  go_ret
  exact ⟨rfl, HZ.out⟩
 | false =>
  go_wp2_with fail
  refine (known18_ok w _ HVA.out HEW.out).mono ?_
  rintro e w3 ⟨rfl, hE⟩
  replace HL := hid (HL.out.ext ETok.ok hE)
  replace HRC := hid (HRC.out.ext hE)
  replace HBR := hid (HBR.out.keep hE id)
  replace HEW := hid (HEW.out.ext hE)
  clear hE HEND
  go_wp2_with fail
  refine (object_ok _ _ _ _ HL.out).mono ?_
  rintro e w4 ⟨u, ys, m, rfl, hfl, hvo, hE⟩
  obtain ⟨lz, oz, rfl, hlz, hoz⟩ := id hvo
  obtain ⟨Az, cz, rfl, _⟩ := hlz.shape
  obtain ⟨Ao, co, rfl, hoc, _⟩ := hoz.shape
  obtain ⟨hsv, htx, hsz, h5⟩ := obj_facts hfl
  have HFL := hid hfl
  have HSV := hid hsv
  have HTX := hid htx
  have HSZ := hid hsz
  have H5 := hid h5
  have hA : Ext w4 (w4.alloc (.cells #[.int .u8 5, .int .i64 0, .string ⟨#[]⟩, .slice Az 0 cz, .slice Ao ys.length co] TVAL)) := (Keep.refl _ _).alloc _
  have HB7 := hid (Blk.new w4 TVAL #[.int .u8 5, .int .i64 0, .string ⟨#[]⟩, .slice Az 0 cz, .slice Ao ys.length co])
  have HV7 := hid (hvo.ext hA)
  replace HRC := hid (HRC.out.ext (hE.ext hA))
  replace HBR := hid (HBR.out.keep (hE.ext hA) id)
  replace HEW := hid (HEW.out.ext (hE.ext hA))
  clear hE hA hlz hoz hvo hfl hsv htx hsz h5 HL
  go_upto_region 4 with fail
  change Code.wp _ _ _ _ (w4.alloc (.cells #[.int .u8 5, .int .i64 0, .string ⟨#[]⟩, .slice Az 0 cz, .slice Ao ys.length co] TVAL))
  generalize hb7 : w4.heap.size = b7 at *
  generalize (w4.alloc (.cells #[.int .u8 5, .int .i64 0, .string ⟨#[]⟩, .slice Az 0 cz, .slice Ao ys.length co] TVAL)) = w5 at *
  clear hb7
  obtain ⟨q0, q1, q2, q3, q4⟩ := blk5 HB7.out
  go_wp2_with fail
  refine (keys_to _ _ _ (.mk 5 0 ⟨#[]⟩ [] ys) pick HV7.out HP.out).mono ?_
  rintro e w6 ⟨v8, ks, rfl, hsub, _, hks, hE⟩
  obtain ⟨Ak, ck, rfl, _⟩ := hks.shape
  have HKS := hid hks
  have HSUB := hid hsub
  replace HB7 := hid (HB7.out.keep hE id)
  replace HV7 := hid (HV7.out.ext hE)
  replace HRC := hid (HRC.out.ext hE)
  replace HBR := hid (HBR.out.keep hE id)
  replace HEW := hid (HEW.out.ext hE)
  clear hE hks hsub q0 q1 q2 q3 q4
  obtain ⟨q0, q1, q2, q3, q4⟩ := blk5 HB7.out
  obtain ⟨r0, r1, r2, r3, r4, r5, r6⟩ := blk7 HBR.out
  go_wp2_with fail
  refine (fits_en w HVA.out HD.out w6 HEW.out _ _ _ _ (.mk 5 0 ⟨#[]⟩ [] ys) r HV7.out HSV.out HTX.out HSZ.out HRC.out HWF.out).mono ?_
  rintro e w9 ⟨u10, kd, k1, k2, cs, z, rfl, hE, hen, hcl, hcf, hac, hzv, hzz⟩
  obtain ⟨A10, c10, B10, d10, D10, e10, rfl, hz0, hsl, hkd⟩ := id hen
  have hA : Ext w9 (w9.alloc (.cells #[.int .u8 kd, .int .u32 k1, .int .u32 k2, .int .u8 0, .int .i64 0, .string ⟨#[]⟩, .slice A10 0 c10, .slice B10 0 d10, .slice D10 cs.length e10] TENT)) := (Keep.refl _ _).alloc _
  have HB10 := hid (Blk.new w9 TENT #[.int .u8 kd, .int .u32 k1, .int .u32 k2, .int .u8 0, .int .i64 0, .string ⟨#[]⟩, .slice A10 0 c10, .slice B10 0 d10, .slice D10 cs.length e10])
  have HEN := hid (hen.ext hA)
  have HCL := hid hcl
  have HCF := hid hcf
  have HZV := hid hzv
  have HZZ := hid hzz
  have HAT := hid (acts_at HVA.out HD.out ks hac hzv HSZ.out rfl hcl)
  replace HB7 := hid (HB7.out.keep (hE.ext hA) id)
  replace HV7 := hid (HV7.out.ext (hE.ext hA))
  replace HEW := hid (HEW.out.ext (hE.ext hA))
  replace HKS := hid (HKS.out.ext EStr.ok (hE.ext hA))
  clear hE hA hz0 hsl hen hcl hcf hac hzv hzz q0 q1 q2 q3 q4 r0 r1 r2 r3 r4 r5 r6 HRC HBR
  go_upto_region 6 with fail
  change Code.wp _ _ _ _ (w9.alloc (.cells #[.int .u8 kd, .int .u32 k1, .int .u32 k2, .int .u8 0, .int .i64 0, .string ⟨#[]⟩, .slice A10 0 c10, .slice B10 0 d10, .slice D10 cs.length e10] TENT))
  generalize hb10 : w9.heap.size = b10 at *
  generalize (w9.alloc (.cells #[.int .u8 kd, .int .u32 k1, .int .u32 k2, .int .u8 0, .int .i64 0, .string ⟨#[]⟩, .slice A10 0 c10, .slice B10 0 d10, .slice D10 cs.length e10] TENT)) = w10 at *
  clear hb10
  have hkd3 : kd = 2 ∨ kd = 3 := hkd.imp id fun h => h.1
  clear hkd
  obtain ⟨s0, s1, s2, s3, s4, s5, s6, s7, s8⟩ := blk9 HB10.out
  rcases hkd3 with rfl | rfl
  case inr =>
   go_wp2
   go_ret
   exact ⟨rfl, HEW.out⟩
  go_wp2_with fail
  refine (within_on w10 _ _ _ _ k1 k2 cs ks HEN.out HKS.out).mono ?_
  rintro e w11 ⟨rfl, hE⟩
  replace HB7 := hid (HB7.out.keep hE id)
  replace HB10 := hid (HB10.out.keep hE id)
  replace HV7 := hid (HV7.out.ext hE)
  replace HEW := hid (HEW.out.ext hE)
  replace HEN := hid (HEN.out.ext hE)
  replace HKS := hid (HKS.out.ext EStr.ok hE)
  clear hE s0 s1 s2 s3 s4 s5 s6 s7 s8
  obtain ⟨wb, hwb⟩ : ∃ wb, (!cs.any (goesC ks)) = wb := ⟨_, rfl⟩
  have HWB := hid hwb
  rw [hwb]
  clear hwb
  cases wb with
  | false =>
   go_wp2
   go_ret
   exact ⟨rfl, HEW.out⟩
  | true =>
   have HTO := hid (show ∀ c ∈ cs, touchL ks c = true from fun c hc => by
    have h1 := HWB.out
    simp only [Bool.not_eq_true', List.any_eq_false] at h1
    have := h1 c hc
    unfold goesC at this
    simpa using this)
   obtain ⟨q0, q1, q2, q3, q4⟩ := blk5 HB7.out
   obtain ⟨s0, s1, s2, s3, s4, s5, s6, s7, s8⟩ := blk9 HB10.out
   go_wp2_with fail
   refine (fold_on2 w HVA.out w11 HEW.out _ _ _ _ (.mk 5 0 ⟨#[]⟩ [] ys) z k1 k2 cs HV7.out (Nat.le_trans HSZ.out (by decide)) HEN.out (by have := HCL.out; omega) HAT.out.2.1 HAT.out.1 (HZV.out.wide (Nat.le_trans HZZ.out (by decide)))).mono ?_
   rintro e w12 ⟨hE, ⟨_, rfl⟩ | ⟨_, u, rfl, hvz⟩⟩
   ·have HZ := hid (HEW.out.ext (hE.ext ((Keep.refl _ _).alloc (.cells #[.int .u8 0, .int .i64 0, .string ⟨#[]⟩, .slice none 0 0, .slice none 0 0] TVAL))))
    clear hE s0 s1 s2 s3 s4 s5 s6 s7 s8 q0 q1 q2 q3 q4
    go_wp2
    go_ret
    exact ⟨rfl, HZ.out⟩
   ·obtain ⟨A1, n1, B1, m1, rfl, hl1, ho1⟩ := hvz
    have hA : Ext w12 (w12.alloc (.cells (vC z A1 n1 B1 m1) TVAL)) := (Keep.refl _ _).alloc _
    have HBZ := hid (Blk.new w12 TVAL (vC z A1 n1 B1 m1))
    have HVZ := hid (show VAt (w12.alloc (.cells (vC z A1 n1 B1 m1) TVAL)) (fun _ => True) (.agg (vC z A1 n1 B1 m1)) z from ⟨_, _, rfl, (hl1.more EVal.ok fun _ _ _ => trivial).ext EVal.ok hA, (ho1.more EField.ok fun _ _ _ => trivial).ext EField.ok hA⟩)
    replace HB7 := hid (HB7.out.keep (hE.ext hA) id)
    replace HB10 := hid (HB10.out.keep (hE.ext hA) id)
    replace HV7 := hid (HV7.out.ext (hE.ext hA))
    replace HEW := hid (HEW.out.ext (hE.ext hA))
    replace HEN := hid (HEN.out.ext (hE.ext hA))
    replace HKS := hid (HKS.out.ext EStr.ok (hE.ext hA))
    clear hE hA hl1 ho1 s0 s1 s2 s3 s4 s5 s6 s7 s8 q0 q1 q2 q3 q4
    go_upto_region 9 with fail
    change Code.wp _ _ _ _ (w12.alloc (.cells (vC z A1 n1 B1 m1) TVAL))
    generalize hbz : w12.heap.size = bz at *
    generalize (w12.alloc (.cells (vC z A1 n1 B1 m1) TVAL)) = w13 at *
    clear hbz
    obtain ⟨os, hos⟩ : ∃ os, ys.filter (fun f => !inB ks f.key) = os := ⟨_, rfl⟩
    have HOS := hid (show othersV (.mk 5 0 ⟨#[]⟩ [] ys) ks = .mk 5 0 ⟨#[]⟩ [] os from by rw [← hos]; rfl)
    have HOZ := hid (show othersV z ks = .mk 5 0 ⟨#[]⟩ [] os from by rw [HAT.out.2.2.2.2 HTO.out]; exact HOS.out)
    have HOZ2 := hid (show (V.mk 5 0 ⟨#[]⟩ [] os).size ≤ 1000000 from by
     rw [← HOS.out, othersV_part]; exact Nat.le_trans (part_size _ _) (Nat.le_trans HSZ.out (by decide)))
    have HFI := hid (show cs.filter (touchL ks) = cs from List.filter_eq_self.2 HTO.out)
    clear hos
    obtain ⟨q0, q1, q2, q3, q4⟩ := blk5 HB7.out
    obtain ⟨p0, p1, p2, p3, p4⟩ := blk5 HBZ.out
    obtain ⟨s0, s1, s2, s3, s4, s5, s6, s7, s8⟩ := blk9 HB10.out
    go_wp2_with fail
    refine wp_region_grow (specOf [(2, fun v w' => EnAt w' (fun _ => True) v 2 k1 k2 cs), (4, fun v _ => v = .bool true), (8, VOk (.mk 5 0 ⟨#[]⟩ [] os)), (11, VOk (.mk 5 0 ⟨#[]⟩ [] os)), (12, fun v _ => v = .bool true)]) (fun w' => Ext w13 w')
     (stable_cons (fun v w w' h he => h.ext he) (stable_cons (fun v w w' h he => h) (stable_cons (fun v w w' h he => h.ext he) (stable_cons (fun v w w' h he => h.ext he) (stable_cons (fun v w w' h he => h) stable_nil))))) (stableC_ext _) (by kernel_rfl) (by kernel_rfl) (Keep.drew (Keep.refl _ _)) ?_
    iterate 2
     (try simp only [Act.put, sqa, sqb, sqc])
     refine grow_run rfl rfl rfl ?_
     apply Exists.intro
     refine ⟨fun w' hC hK => ?_, ?_⟩
     ·have s0 := sqw hC s0
      have s1 := sqw hC s1
      have s2 := sqw hC s2
      have s3 := sqw hC s3
      have s4 := sqw hC s4
      have s5 := sqw hC s5
      have s6 := sqw hC s6
      have s7 := sqw hC s7
      have s8 := sqw hC s8
      go_simp
      rfl
    (try simp only [Act.put, sqa, sqb, sqc])
    refine grow_eff rfl rfl rfl (fun w' hC hK => ?_) (fun v2 hv2 => ?_)
    ·unfold growAt
     go_simp
     refine grow_call ((entry_on _ _ _ _ _ 2 k1 k2 cs ks (HEN.out.ext hC) (HKS.out.ext EStr.ok hC) (fun c hc => ⟨Nat.le_trans (HCF.out c hc).1 (by decide), Nat.le_trans (HCF.out c hc).2 (by decide)⟩) (by have := HCL.out; omega)).mono ?_)
     rintro e w'' ⟨u', rfl, h1, h2⟩
     rw [HFI.out] at h1
     exact ⟨_, rfl, h2, h1⟩
    obtain ⟨_, _, A4, c4, B4, d4, D4, e4, rfl, _⟩ := hv2.head
    iterate 1
     (try simp only [Act.put, sqa, sqb, sqc])
     refine grow_run rfl rfl rfl ?_
     apply Exists.intro
     refine ⟨fun w' hC hK => ?_, ?_⟩
     ·have s0 := sqw hC s0
      have s1 := sqw hC s1
      have s2 := sqw hC s2
      have s3 := sqw hC s3
      have s4 := sqw hC s4
      have s5 := sqw hC s5
      have s6 := sqw hC s6
      have s7 := sqw hC s7
      have s8 := sqw hC s8
      go_simp
      rfl
    (try simp only [Act.put, sqa, sqb, sqc])
    refine grow_eff rfl rfl rfl (fun w' hC hK => ?_) (fun v4 hv4 => ?_)
    ·unfold growAt
     go_simp
     have h2 : EnAt w' (fun _ => True) (.agg #[.int .u8 2, .int .u32 k1, .int .u32 k2, .int .u8 0, .int .i64 0, .string ⟨#[]⟩, .slice A4 0 c4, .slice B4 0 d4, .slice D4 cs.length e4]) 2 k1 k2 cs := hK.get (i := 2) List.mem_cons_self (by kernel_rfl)
     refine grow_call ((same10_on _ _ _ _ _ 2 k1 k2 cs h2 (HEN.out.ext hC)).mono ?_)
     rintro e w'' ⟨rfl, h1⟩
     exact ⟨_, rfl, h1, rfl⟩
    obtain ⟨_, _, rfl⟩ := hv4.head
    iterate 3
     (try simp only [Act.put, sqa, sqb, sqc])
     refine grow_run rfl rfl rfl ?_
     apply Exists.intro
     refine ⟨fun w' hC hK => ?_, ?_⟩
     ·have q0 := sqw hC q0
      have q1 := sqw hC q1
      have q2 := sqw hC q2
      have q3 := sqw hC q3
      have q4 := sqw hC q4
      go_simp
      rfl
    (try simp only [Act.put, sqa, sqb, sqc])
    refine grow_eff rfl rfl rfl (fun w' hC hK => ?_) (fun v8 hv8 => ?_)
    ·unfold growAt
     go_simp
     refine grow_call ((others_ok _ _ _ _ _ (.mk 5 0 ⟨#[]⟩ [] ys) ks (HV7.out.ext hC) (Nat.le_trans HSZ.out (by decide)) (HKS.out.ext EStr.ok hC)).mono ?_)
     rintro e w'' ⟨u', rfl, h1, h2⟩
     rw [HOS.out] at h1
     exact ⟨_, rfl, h2, VIs.of h1⟩
    obtain ⟨_, _, A6, c6, B6, d6, rfl, _⟩ := hv8.head
    iterate 2
     (try simp only [Act.put, sqa, sqb, sqc])
     refine grow_run rfl rfl rfl ?_
     apply Exists.intro
     refine ⟨fun w' hC hK => ?_, ?_⟩
     ·have p0 := sqw hC p0
      have p1 := sqw hC p1
      have p2 := sqw hC p2
      have p3 := sqw hC p3
      have p4 := sqw hC p4
      go_simp
      rfl
    (try simp only [Act.put, sqa, sqb, sqc])
    refine grow_eff rfl rfl rfl (fun w' hC hK => ?_) (fun v11 hv11 => ?_)
    ·unfold growAt
     go_simp
     refine grow_call ((others_ok _ _ _ _ _ z ks (HVZ.out.ext hC) (Nat.le_trans HZZ.out (by decide)) (HKS.out.ext EStr.ok hC)).mono ?_)
     rintro e w'' ⟨u', rfl, h1, h2⟩
     rw [HOZ.out] at h1
     exact ⟨_, rfl, h2, VIs.of h1⟩
    obtain ⟨_, _, A8, c8, B8, d8, rfl, _⟩ := hv11.head
    (try simp only [Act.put, sqa, sqb, sqc])
    refine grow_eff rfl rfl rfl (fun w' hC hK => ?_) (fun v12 hv12 => ?_)
    ·unfold growAt
     go_simp
     have h2 : VOk (.mk 5 0 ⟨#[]⟩ [] os) (.agg #[.int .u8 5, .int .i64 0, .string ⟨#[]⟩, .slice A6 0 c6, .slice B6 os.length d6]) w' := hK.get (i := 8) (List.mem_cons_of_mem _ List.mem_cons_self) (by kernel_rfl)
     have h3 : VOk (.mk 5 0 ⟨#[]⟩ [] os) (.agg #[.int .u8 5, .int .i64 0, .string ⟨#[]⟩, .slice A8 0 c8, .slice B8 os.length d8]) w' := hK.get (i := 11) List.mem_cons_self (by kernel_rfl)
     refine grow_call ((rsame_any 1000000 _ _ HOZ2.out true (by simp) _ _ _ _ _ h2.at_ h3.at_).mono ?_)
     rintro e w'' ⟨rfl, h1⟩
     exact ⟨_, rfl, h1, rfl⟩
    obtain ⟨_, _, rfl⟩ := hv12.head
    iterate 2
     (try simp only [Act.put, sqa, sqb, sqc])
     refine grow_run rfl rfl rfl ?_
     apply Exists.intro
     refine ⟨fun w' hC hK => ?_, ?_⟩
     ·go_simp
      rfl
    refine grow_nil fun w14 hC _ => ?_
    have HZ := hid (HEW.out.ext (show Ext w13 w14 from hC))
    clear hC hv2 hv4 hv8 hv11 hv12
    go_wp2
    go_ret
    exact ⟨rfl, HZ.out⟩
end Go.Proofs.YtggkidnlmaindaaDoor
namespace Go.Proofs.YtggkidnlmaindaaDoor
open Go.ChangeShapes Go.WideShapes Go.ChangeAt Go.RowKit Go.Deep
theorem within18_lift {Q : Prop} (lv : Value) (l : List Tk) (cs : Array Value) (r : Rc) (pick : Int) (w : World) (h0 : Sl ETok w (fun k => k < w.heap.size) lv l) (q0 : Q) (h1 : ERc.rd w (fun k => k < w.heap.size) cs.toList r) (q1 : ∀ a ∈ r.acts, Wfa a) (q2 : (Lit.int .u16 pick).wf = true) (hT : ValAny w ∧ DecAny w) :
  Calls Tryd.prog 5 #[lv, .agg cs, .int .u16 pick] w fun e w' => e = .returned (.bool true) ∧ Below w.heap.size w w' := by
 obtain ⟨vv, ov, av, e1, a1, a2, a3⟩ := h1
 exact (within18_ok w _ _ lv (.agg cs) pick l r h0 ⟨vv, ov, av, by rw [← Array.toArray_toList (xs := cs), e1], a1, a2, a3⟩ q2 q1 hT.1 hT.2).mono fun e w' h => ⟨h.1, h.2.toBelow⟩
end Go.Proofs.YtggkidnlmaindaaDoor
