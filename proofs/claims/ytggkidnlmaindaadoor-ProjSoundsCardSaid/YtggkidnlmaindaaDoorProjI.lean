/- The reference's Val of fields, by contract. -/
import Derived.Test.YtggkidnlmaindaaDoorProjH
import Derived.Test.YtggkidnlmaindaaDoorRefCopy
set_option linter.unusedSimpArgs false
set_option linter.unusedVariables false
namespace Go.Proofs.YtggkidnlmaindaaDoor
open Go.RowKit
set_option linter.unusedVariables false

/-- What is under way: the part so far, in a box's last cell. -/
def PartIs (W1 wr : World) (b : Nat) (xs : List F) (fs : List ByteArray) (j : Nat) : Prop := ∃ X, Blk wr b TVAL #[.int .u8 5, .int .i64 0, .string ⟨#[]⟩, .slice none 0 0, X] ∧ Own EField wr W1.heap.size TFIELD (DS wr W1.heap.size X) X ((xs.take j).filter fun f => !goes fs f) ∧ Keep (· = b) W1 wr

set_option maxRecDepth 100000 in
set_option maxHeartbeats 6400000 in
theorem rpval_ok (w : World) (S S2 : BS) (u fv : Value) (v : V) (fs : List ByteArray) (hv : VAt w S u v) (hsz : v.size ≤ 1000000) (hs : Sl EStr w S2 fv fs) :
    Calls Tryd.prog 18 #[u, fv] w (ProjIs w (projV v fs)) := by
  have hvo : v.o.length ≤ 1000000 := by have := V.size_eq v; have := F.sizes_len v.o; omega
  have HVS := hid (fun (x : F) (hx : x ∈ v.o) => (by have := V.size_eq v; have := F.sizes_mem hx; omega : x.v.size ≤ 1000000))
  have HS := hid (hs.more EStr.ok (S' := fun q => q < w.heap.size) fun k hk _ => hk)
  obtain ⟨lv, ov, rfl, hl, ho⟩ := hv
  have HO := hid (ho.more EField.ok (S' := fun q => q < w.heap.size) fun k hk _ => hk)
  obtain ⟨A, c, rfl, hlc, hcm⟩ := hl.shape
  obtain ⟨A', c', rfl, hlc', hcm'⟩ := ho.shape
  obtain ⟨B, d, rfl, _, _⟩ := hs.shape
  clear hl ho hs hsz hlc hcm
  obtain ⟨W0, hW0⟩ : ∃ W0, (w.alloc (.cells #[U8 v.kind, .int .i64 v.n, .string v.s, .slice A v.l.length c, .slice A' v.o.length c'] TVAL)).alloc (.cells #[.int .u8 0, .int .i64 0, .string ⟨#[]⟩, .slice none 0 0, .slice none 0 0] TVAL) = W0 := ⟨_, rfl⟩
  obtain ⟨hb0, hb1, hE0⟩ := blk_pair w TVAL #[U8 v.kind, .int .i64 v.n, .string v.s, .slice A v.l.length c, .slice A' v.o.length c'] #[.int .u8 0, .int .i64 0, .string ⟨#[]⟩, .slice none 0 0, .slice none 0 0]
  rw [hW0] at hb0 hb1 hE0
  have hz0 : W0.heap.size = w.heap.size + 1 + 1 := by rw [← hW0]; simp
  have HE0 := hid hE0
  have HB1 := hid hb1
  have HB00 := hid hb0
  have HZ0 := hid hz0
  have p0 := hb0.cell 0
  have p4 := hb0.cell 4
  have z0 := hb1.cell 0
  have z1 := hb1.cell 1
  have z2 := hb1.cell 2
  have z3 := hb1.cell 3
  have z4 := hb1.cell 4
  simp only [List.getElem?_toArray, List.getElem?_cons_succ, List.getElem?_cons_zero] at p0 p4 z0 z1 z2 z3 z4
  have hfz := hb1.frozen
  clear hE0 hb0 hb1 hz0
  by_cases hk : v.kind = 5
  · have hkX : ((v.kind.toNat : Int) != 5) = false := by rw [hk]; rfl
    have HK := hid hk
    clear hk hfz z0 z1 z2 z3 z4
    go_enter Tryd.func18, Tryd.ntmps18
    go_wp2_with fail
    obtain ⟨W1, hW1⟩ : ∃ W1, W0.alloc (.cells #[.int .u8 5, .int .i64 0, .string ⟨#[]⟩, .slice none 0 0, .slice none 0 0] TVAL) = W1 := ⟨_, rfl⟩
    have hE1 : Ext W0 W1 := by rw [← hW1]; exact (Keep.refl _ _).alloc _
    have hbt : Blk W1 W0.heap.size TVAL #[.int .u8 5, .int .i64 0, .string ⟨#[]⟩, .slice none 0 0, .slice none 0 0] := by rw [← hW1]; exact Blk.new _ _ _
    have hz1 : W1.heap.size = W0.heap.size + 1 := by rw [← hW1]; simp
    rw [hW1]
    have HE1 := hid hE1
    have HB0 := hid (HB00.out.keep hE1 id)
    have HBT := hid hbt
    have HZ1 := hid hz1
    clear hE1 hbt hz1
    clear hW0 hW1 p0 p4
    go_loopw [6] (fun y wr => ∃ j : Nat, j ≤ v.o.length ∧ y = .int .i64 j ∧ PartIs W1 wr W0.heap.size v.o fs j) (fun y _ => v.o.length - (intOf y).toNat)
    case atStart => exact ⟨0, by omega, rfl, _, HBT.out, Own.nil _ _ _ _, Keep.refl _ _⟩
    case round =>
      obtain ⟨j, hj, rfl, X, hbx, hown, hr⟩ := hrel
      obtain ⟨A4, c4, rfl, hl4, hc4⟩ := hown.shape
      have hb0 := HB0.out.keep hr (by have := HZ0.out; omega)
      have x4 := hb0.cell 4
      simp only [List.getElem?_toArray, List.getElem?_cons_succ, List.getElem?_cons_zero] at x4
      have HBX := hid hbx
      have HOW := hid hown
      have HR := hid hr
      by_cases hlt : j < v.o.length
      · have hvw := ((HO.out.ext EField.ok HE0.out).ext EField.ok HE1.out).keep EField.ok hr (fun q h e => by have := HZ0.out; omega)
        obtain ⟨b1, f1, d1, rfl, _, _, hr1, hc1⟩ := hvw.at_ EField.ok hlt
        obtain ⟨lv1, ov1, rfl, ⟨D1, g1, rfl⟩, ⟨D2, g2, rfl⟩, hva⟩ := EField_cells hr1
        have HTS := hid (take_succ_get v.o j hlt)
        have p0 := hc1 0 _ rfl
        have p1 := hc1 1 _ rfl
        have p2 := hc1 2 _ rfl
        have p3 := hc1 3 _ rfl
        have p4 := hc1 4 _ rfl
        have p5 := hc1 5 _ rfl
        have e5 : EField.size = 6 := rfl
        simp only [e5, Nat.add_zero] at p0 p1 p2 p3 p4 p5
        have HXM := hid (HVS.out _ (List.getElem_mem hlt))
        have HVA := hid hva
        have hjX : (j : Int) < v.o.length := by omega
        have HSR := hid (((HS.out.ext EStr.ok HE0.out).ext EStr.ok HE1.out).keep EStr.ok hr (fun q h e => by have := HZ0.out; omega))
        clear hc1 hr1 hva e5 hown hr hbx hb0 hvw
        generalize v.o[j] = y at *
        obtain ⟨q, hq⟩ : ∃ q : Bool, amongL fs y.key = q := ⟨_, rfl⟩
        have HQ := hid hq
        go_wp2_with fail
        refine (rin_ok _ _ _ fs y.key HSR.out).mono ?_
        rintro e w2 ⟨rfl, hE2⟩
        rw [hq]
        clear hq
        cases q with
        | false =>
          have HRW := hid (HR.out.ext hE2)
          have hf : (v.o.take (j + 1)).filter (fun f => !goes fs f) = (v.o.take j).filter (fun f => !goes fs f) := by
            rw [HTS.out, List.filter_append]; simp [goes, HQ.out]
          have HP := hid (show PartIs W1 w2 W0.heap.size v.o fs (j + 1) from ⟨_, HBX.out.keep hE2 id, by rw [hf]; exact ds_more EField.ok HOW.out hE2, HRW.out⟩)
          clear hE2 hf p0 p1 p2 p3 p4 p5 x4
          go_wp2
          exact ⟨⟨j + 1, by omega, by go_num, HP.out⟩, by simp [intOf]; omega⟩
        | true =>
          have hf : (v.o.take (j + 1)).filter (fun f => !goes fs f) = (v.o.take j).filter (fun f => !goes fs f) ++ [y] := by
            rw [HTS.out, List.filter_append]; simp [goes, HQ.out]
          have hln : ((v.o.take j).filter fun f => !goes fs f).length ≤ j := by
            have := List.length_filter_le (fun f => !goes fs f) (v.o.take j)
            rw [List.length_take] at this; omega
          have HF := hid hf
          have HLN := hid hln
          have HVA2 := hid (HVA.out.ext hE2)
          have HO2 := hid (ds_more EField.ok HOW.out hE2)
          have HBX2 := hid (HBX.out.keep hE2 id)
          have HRW := hid (HR.out.ext hE2)
          have x4' := (hE2.cell (lt_of_cell x4) id).trans x4
          have p0' := (hE2.cell (lt_of_cell p0) id).trans p0
          have p1' := (hE2.cell (lt_of_cell p1) id).trans p1
          have p2' := (hE2.cell (lt_of_cell p2) id).trans p2
          have p3' := (hE2.cell (lt_of_cell p3) id).trans p3
          have p4' := (hE2.cell (lt_of_cell p4) id).trans p4
          have p5' := (hE2.cell (lt_of_cell p5) id).trans p5
          have t4 := HBX2.out.cell 4
          simp only [List.getElem?_toArray, List.getElem?_cons_succ, List.getElem?_cons_zero] at t4
          clear x4 p0 p1 p2 p3 p4 p5 hE2 hf hln HBX HOW HR HVA HSR
          generalize (v.o.take j).filter (fun f => !goes fs f) = ta at *
          go_wp2_with fail
          refine wp_region_parts [0, 2, 4, 8, 10] [1, 3, 5, 6, 7, 9, 11, 12, 13, 14, 15, 16] [17, 18, 19] (specOf [(14, fun u w' => VAt w' (fun k => w2.heap.size ≤ k) u y.v), (16, fun v w' => SlShape EField w' (fun k => w2.heap.size ≤ k) v 1 [y])])
            (fun w' => Ext w2 w') ?_ (stableC_ext _) (by kernel_rfl) (by kernel_rfl) (Keep.drew (Keep.refl _ _)) ?_
          · exact stable_cons (fun v w w' h he => h.ext he) (stable_cons (fun v w w' h he => h.ext EField.ok he) stable_nil)
          iterate 5
            (try simp only [Act.put, List.setIfInBounds_toArray, List.set_cons_zero, List.set_cons_succ])
            refine pure_run rfl rfl ?_
            apply Exists.intro
            refine ⟨fun w' => ?_, ?_⟩
            · go_simp
              rfl
          refine pure_nil ?_
          iterate 9
            (try simp only [Act.put, List.setIfInBounds_toArray, List.set_cons_zero, List.set_cons_succ])
            refine growP_run rfl rfl rfl ?_
            apply Exists.intro
            refine ⟨fun w' hC hK => ?_, ?_⟩
            · have x4' := (hC.cell (lt_of_cell x4') id).trans x4'
              have t4 := (hC.cell (lt_of_cell t4) id).trans t4
              have p0' := (hC.cell (lt_of_cell p0') id).trans p0'
              have p1' := (hC.cell (lt_of_cell p1') id).trans p1'
              have p2' := (hC.cell (lt_of_cell p2') id).trans p2'
              have p3' := (hC.cell (lt_of_cell p3') id).trans p3'
              have p4' := (hC.cell (lt_of_cell p4') id).trans p4'
              have p5' := (hC.cell (lt_of_cell p5') id).trans p5'
              go_simp
              rfl
          (try simp only [Act.put, List.setIfInBounds_toArray, List.set_cons_zero, List.set_cons_succ])
          refine growP_eff rfl rfl rfl (fun w' hC hK => ?_) (fun v14 hv14 => ?_)
          · unfold growAt
            go_simp
            refine grow_call ((rcopy_any 1000000 y.v HXM.out (Nat.le_refl _) _ _ _ (HVA2.out.ext hC)).mono ?_)
            intro e w'' hcp
            obtain ⟨u', rfl, h1, h2⟩ := hcp.at_
            exact ⟨_, rfl, h2, h1.more fun k _ h => by have := hC.size; omega⟩
          obtain ⟨_, _, lv8, ov8, rfl, hl8, ho8⟩ := hv14.head
          obtain ⟨A8, d8, rfl, _⟩ := hl8.shape
          obtain ⟨A9, d9, rfl, _⟩ := ho8.shape
          clear hl8 ho8
          iterate 1
            (try simp only [Act.put, List.setIfInBounds_toArray, List.set_cons_zero, List.set_cons_succ])
            refine growP_run rfl rfl rfl ?_
            apply Exists.intro
            refine ⟨fun w' hC hK => ?_, ?_⟩
            · go_simp
              rfl
          (try simp only [Act.put, List.setIfInBounds_toArray, List.set_cons_zero, List.set_cons_succ])
          refine growP_eff rfl rfl rfl (fun w' hC hK => ?_) (fun v16 hv16 => ?_)
          · unfold growAt
            go_simp
            have h13 : VAt w' (fun k => w2.heap.size ≤ k) (.agg #[U8 y.v.kind, .int .i64 y.v.n, .string y.v.s, .slice A8 y.v.l.length d8, .slice A9 y.v.o.length d9]) y.v := hK.get (i := 14) List.mem_cons_self (by kernel_rfl)
            refine ⟨(Keep.refl _ _).alloc _, _, _, rfl, [_, _, _, _, _, _], ?_, Cells.single (rdF_iff.2 ⟨_, rfl, (h13.ext ((Keep.refl _ _).alloc _)).rd⟩)⟩
            exact (RowS.new (sz := 6) (cs := [_, _, _, _, _, _]) (n := 1) rfl (by simp [maxLen])).more fun k _ e => by have := hC.size; omega
          obtain ⟨_, _, A10, d10, rfl, _⟩ := hv16.head
          refine growP_nil fun w4 hC hK => ?_
          obtain ⟨_, _, _, f7⟩ : SlShape EField w4 (fun k => w2.heap.size ≤ k) (.slice A10 1 d10) 1 [y] := hK (16, _) List.mem_cons_self
          change wpList _ _ _ (_ :: _ :: _ :: []) _ _
          have hC' : Ext w2 w4 := hC
          have hO4 := HO2.out.ext EField.ok hC'
          have hsrc := f7.more (S' := fun k => w2.heap.size ≤ k ∧ k < w4.heap.size) EField.ok (fun k h1 h2 => ⟨h2, h1⟩)
          have HC4 := hid hC'
          clear hC hC' hK hv14 hv16 f7 x4' t4 p0' p1' p2' p3' p4' p5'
          (try simp only [Act.put, List.setIfInBounds_toArray, List.set_cons_zero, List.set_cons_succ])
          refine wpList_own_append (P := Tryd.prog) (E := EField) (v := .slice A4 ta.length c4) (y := .slice A10 1 d10) w4 rfl (.tmp 28) (.tmp 43) EField.ok ty_field ?_ ?_ ?_ hO4 hsrc ?_ ?_ ?_ (Nat.le_trans HRW.out.size HC4.out.size) ?_
          · rfl
          · rfl
          · rfl
          · exact fun g hg => ⟨fun h => h.2.2 hg, fun h => by have := (HO2.out.lt hg).2; omega⟩
          · have := HLN.out; simp only [List.length_singleton]; omega
          · have := HLN.out; simp only [List.length_singleton, maxLen]; omega
          intro v' w' hown' hk hb
          obtain ⟨A7, c7, rfl, hl7, hc7⟩ := hown'.shape
          have hz1 := HZ1.out
          have HT5 := hid ((HBX2.out.keep HC4.out id).keep hk (fun e => by have := (HO2.out.lt (show (Value.slice A4 ta.length c4).ownBlock = some W0.heap.size from e)).1; omega))
          have HK5 := hid (show Keep (· = W0.heap.size) W1 w' from (HRW.out.ext HC4.out).trans hk fun k hlt e => by
            have := (HO2.out.lt (show (Value.slice A4 ta.length c4).ownBlock = some k from e)).1; omega)
          have HO3 := hid (show Own EField w' W1.heap.size TFIELD (DS w' W1.heap.size (.slice A7 (ta ++ [y]).length c7)) (.slice A7 (ta ++ [y]).length c7) (ta ++ [y]) from
            ds_next (N := w4.heap.size) EField.ok hown' HC4.out.size hk.size (fun k h => h) HRW.out.size (fun g hg => (HO2.out.lt hg).2) hb)
          have t4 := HT5.out.cell 4
          have hfz := HT5.out.frozen
          simp only [List.getElem?_toArray, List.getElem?_cons_succ, List.getElem?_cons_zero] at t4
          clear hown' hk hb hO4 hsrc HC4
          generalize hm : (ta ++ [y]).length = m at *
          have HP := hid (show PartIs W1 (w'.setCell ⟨W0.heap.size, 4, none⟩ (.slice A7 m c7)) W0.heap.size v.o fs (j + 1) from by
            have hka : Keep (· = W0.heap.size) w' (w'.setCell ⟨W0.heap.size, 4, none⟩ (.slice A7 m c7)) := (Keep.refl _ _).set1 4 _
            refine ⟨.slice A7 m c7, HT5.out.set_ 4 _, ?_, HK5.out.trans hka fun _ _ e => e⟩
            rw [HF.out]
            exact (HO3.out.keep EField.ok hka (fun q h e => by have := h.1; omega) (fun q h e => by have := (HO3.out.lt h).1; omega)).more EField.ok fun q _ h => ⟨h.1, Nat.lt_of_lt_of_le h.2.1 hka.size, h.2.2⟩)
          (try simp only [Act.put, List.setIfInBounds_toArray, List.set_cons_zero, List.set_cons_succ])
          go_wp2_with fail
          refine NoPanic.normal ?_
          go_wp2
          exact ⟨⟨j + 1, by omega, by go_num, HP.out⟩, by simp [intOf]; omega⟩
      · obtain rfl : j = v.o.length := by omega
        rw [List.take_length] at *
        generalize hX : (v.o.filter fun f => !goes fs f) = ys at *
        have HY := hid hX
        have hR := (HB1.out.keep HE1.out id).keep hr (by have := HZ0.out; omega)
        have HOW2 := hid hown
        have HR4 := hid hR
        have HKW := hid (show Keep (fun k => w.heap.size ≤ k) w wr from (((Keep.refl (fun k => w.heap.size ≤ k) w).ext HE0.out).ext HE1.out).trans hr fun k _ h => by have := HZ0.out; omega)
        have t0 := hbx.cell 0
        have t1 := hbx.cell 1
        have t2 := hbx.cell 2
        have t3 := hbx.cell 3
        have t4 := hbx.cell 4
        have z0 := hR.cell 0
        have z1 := hR.cell 1
        have z2 := hR.cell 2
        have z3 := hR.cell 3
        have z4 := hR.cell 4
        simp only [List.getElem?_toArray, List.getElem?_cons_succ, List.getElem?_cons_zero] at t0 t1 t2 t3 t4 z0 z1 z2 z3 z4
        have hfz := hR.frozen
        clear hown hr hbx hb0 hR hX HBX HOW
        go_wp2_with fail
        obtain ⟨Wf, hWf⟩ : ∃ Wf, set5 wr (w.heap.size + 1) 0 (.int .u8 5) (.int .i64 0) (.string ⟨#[]⟩) (.slice none 0 0) (.slice A4 ys.length c4) = Wf := ⟨_, rfl⟩
        change bodyPost _ _ _ _ _ (set5 wr (w.heap.size + 1) 0 (.int .u8 5) (.int .i64 0) (.string ⟨#[]⟩) (.slice none 0 0) (.slice A4 ys.length c4))
        have hf := set5_full HR4.out (.int .u8 5) (.int .i64 0) (.string ⟨#[]⟩) (.slice none 0 0) (.slice A4 ys.length c4)
        have hk := set5_keep wr (w.heap.size + 1) 0 (.int .u8 5) (.int .i64 0) (.string ⟨#[]⟩) (.slice none 0 0) (.slice A4 ys.length c4)
        rw [hWf] at hf hk ⊢
        have f0 := hf.cell 0
        have f1 := hf.cell 1
        have f2 := hf.cell 2
        have f3 := hf.cell 3
        have f4 := hf.cell 4
        simp only [List.getElem?_toArray, List.getElem?_cons_succ, List.getElem?_cons_zero] at f0 f1 f2 f3 f4
        have hs0 := HZ0.out
        have hs1 := HZ1.out
        have hKW : Ext w Wf := (HKW.out.trans hk fun k _ h => by omega).mono fun k h1 h2 => by omega
        refine bodyPost_ret (v := .agg #[.int .u8 5, .int .i64 0, .string ⟨#[]⟩, .slice none 0 0, .slice A4 ys.length c4]) (by simp [results, Tryd.results18, go_sem, f0, f1, f2, f3, f4]) rfl ⟨_, rfl, ?_, hKW⟩
        rw [projV, if_pos HK.out, HY.out]
        exact VAt.fields (HOW2.out.keep EField.ok hk (fun q h e => by have := h.1; omega) (fun q h e => by have := (HOW2.out.lt h).1; omega))
  · have hkX : ((v.kind.toNat : Int) != 5) = true := by
      have : v.kind.toNat ≠ 5 := fun e => hk (UInt8.toNat_inj.1 (by simpa using e))
      simp; omega
    have HK := hid hk
    clear hk
    go_enter Tryd.func18, Tryd.ntmps18
    go_wp2_with fail
    obtain ⟨Wf, hWf⟩ : ∃ Wf, set5 W0 (w.heap.size + 1) 0 (.int .u8 0) (.int .i64 0) (.string ⟨#[]⟩) (.slice none 0 0) (.slice none 0 0) = Wf := ⟨_, rfl⟩
    change bodyPost _ _ _ _ _ (set5 W0 (w.heap.size + 1) 0 (.int .u8 0) (.int .i64 0) (.string ⟨#[]⟩) (.slice none 0 0) (.slice none 0 0))
    have hf := set5_full HB1.out (.int .u8 0) (.int .i64 0) (.string ⟨#[]⟩) (.slice none 0 0) (.slice none 0 0)
    have hk := set5_keep W0 (w.heap.size + 1) 0 (.int .u8 0) (.int .i64 0) (.string ⟨#[]⟩) (.slice none 0 0) (.slice none 0 0)
    rw [hWf] at hf hk ⊢
    have f0 := hf.cell 0
    have f1 := hf.cell 1
    have f2 := hf.cell 2
    have f3 := hf.cell 3
    have f4 := hf.cell 4
    simp only [List.getElem?_toArray, List.getElem?_cons_succ, List.getElem?_cons_zero] at f0 f1 f2 f3 f4
    have hKW : Ext w Wf := (((Keep.refl (fun k => w.heap.size ≤ k) w).ext HE0.out).trans hk fun k _ h => by omega).mono fun k h1 h2 => by omega
    refine bodyPost_ret (v := .agg #[.int .u8 0, .int .i64 0, .string ⟨#[]⟩, .slice none 0 0, .slice none 0 0]) (by simp [results, Tryd.results18, go_sem, f0, f1, f2, f3, f4]) rfl ⟨_, rfl, ?_, hKW⟩
    rw [projV, if_neg HK.out]
    exact ⟨_, _, rfl, Sl.nil _ _, Sl.nil _ _⟩
end Go.Proofs.YtggkidnlmaindaaDoor
