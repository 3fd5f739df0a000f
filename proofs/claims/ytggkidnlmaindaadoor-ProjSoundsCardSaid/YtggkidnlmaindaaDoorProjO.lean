/- The law's object: an object of pieces. IN WORK. -/
import Derived.Test.YtggkidnlmaindaaDoorProjI
import Derived.Test.YtggkidnlmaindaaDoorProjN
import Derived.Test.YtggkidnlmaindaaDoorLawOne
set_option linter.unusedSimpArgs false
set_option linter.unusedVariables false
namespace Go.Proofs.YtggkidnlmaindaaDoor
open Go.RowKit
set_option linter.unusedVariables false

/-- The fields so far: keys a .., sound values, not large. -/
def FldsOk (ys : List F) (i : Nat) : Prop := ys.map F.key = fiveKeys.take i ∧ ∀ f ∈ ys, SV f.v ∧ f.v.size ≤ 241
def ObjIs (w : World) (e : Ending) (w' : World) : Prop := ∃ u ys m, e = .returned u ∧ FldsOk ys m ∧ VAt w' (fun _ => True) u (.mk 5 0 ⟨#[]⟩ [] ys) ∧ Ext w w'
def ObjAt (W1 wr : World) (b : Nat) (i : Nat) : Prop := ∃ ys X, FldsOk ys i ∧ Blk wr b TVAL #[.int .u8 5, .int .i64 0, .string ⟨#[]⟩, .slice none 0 0, X] ∧ Own EField wr W1.heap.size TFIELD (DS wr W1.heap.size X) X ys ∧ Keep (· = b) W1 wr

/-- A value that Build gives; a field of it, alone in a slice. -/
def BldV (S : BS) (u : Value) (w : World) : Prop := ∃ x, SV x ∧ x.size ≤ 241 ∧ VAt w S u x
theorem BldV.ext {S : BS} {u : Value} {w w' : World} (h : BldV S u w) (he : Ext w w') : BldV S u w' := by
  obtain ⟨x, h1, h2, h3⟩ := h; exact ⟨x, h1, h2, h3.ext he⟩
def BldS (key : ByteArray) (S : BS) (v : Value) (w : World) : Prop := ∃ x, SV x ∧ x.size ≤ 241 ∧ SlShape EField w S v 1 [F.mk key x]
theorem BldS.ext {key : ByteArray} {S : BS} {v : Value} {w w' : World} (h : BldS key S v w) (he : Ext w w') : BldS key S v w' := by
  obtain ⟨x, h1, h2, h3⟩ := h; exact ⟨x, h1, h2, h3.ext EField.ok he⟩

set_option maxRecDepth 100000 in
set_option maxHeartbeats 3200000 in
theorem object_ok (ts : List Tk) (v : Value) (S : BS) (w : World) (hl : Sl ETok w S v ts) : Calls Tryd.prog 12 #[v] w (ObjIs w) := by
  obtain ⟨A, c, rfl, hlc, hcm⟩ := hl.shape
  unfold maxLen at hcm
  have HL := hid (hl.more ETok.ok (S' := fun q => q < w.heap.size) fun k hk _ => hk)
  clear hl
  generalize hn : ts.length = n at *
  have HN := hid hn
  clear hn
  go_enter Tryd.func12, Tryd.ntmps12
  go_wp2_with fail
  obtain ⟨hb0, hb1, hE1⟩ := blk_pair w TVAL #[.int .u8 0, .int .i64 0, .string ⟨#[]⟩, .slice none 0 0, .slice none 0 0] #[.int .u8 5, .int .i64 0, .string ⟨#[]⟩, .slice none 0 0, .slice none 0 0]
  obtain ⟨W1, hW1⟩ : ∃ W1, (w.alloc (.cells #[.int .u8 0, .int .i64 0, .string ⟨#[]⟩, .slice none 0 0, .slice none 0 0] TVAL)).alloc (.cells #[.int .u8 5, .int .i64 0, .string ⟨#[]⟩, .slice none 0 0, .slice none 0 0] TVAL) = W1 := ⟨_, rfl⟩
  have hz1 : W1.heap.size = w.heap.size + 1 + 1 := by rw [← hW1]; simp
  rw [hW1] at hb0 hb1 hE1
  rw [hW1]
  have HB0 := hid hb0
  have HB1 := hid hb1
  have HE1 := hid hE1
  have HZ1 := hid hz1
  clear hb0 hb1 hE1 hz1 hW1
  go_loopw [4] (fun y wr => ∃ i : Nat, i ≤ 5 ∧ y = .int .i64 i ∧ ObjAt W1 wr (w.heap.size + 1) i) (fun y _ => 5 - (intOf y).toNat)
  case atStart => exact ⟨0, by omega, rfl, [], _, ⟨rfl, fun f hf => by cases hf⟩, HB1.out, Own.nil _ _ _ _, Keep.refl _ _⟩
  case round =>
    obtain ⟨i, hi, rfl, ys, X, hfl, hbx, hown, hr⟩ := hrel
    obtain ⟨A4, c4, rfl, hl4, hc4⟩ := hown.shape
    have HFL := hid hfl
    have HBX := hid hbx
    have HOW := hid hown
    have HR := hid hr
    clear hfl hbx hown hr
    by_cases h5 : i < 5
    · by_cases hlt : i * 5 < n
      · have h5X : (i : Int) < 5 := by omega
        have hltX : (i : Int) * 5 < n := by omega
        obtain ⟨b, hbt⟩ : ∃ b : UInt8, b.toNat = 97 + i := ⟨UInt8.ofNat (97 + i), by
          rw [UInt8.toNat_ofNat']; omega⟩
        have hu : [b].map U8 = [Value.int .u8 (97 + (i : Int))] := by
          simp only [List.map_cons, List.map_nil, U8, hbt]
          simp
        have hnew := bytes_new (w := wr) (t := 5) (f := (0, 0)) [b] (by simp [maxLen])
        rw [hu] at hnew
        have HC := convert_bytesS hnew
        simp only [List.length_singleton] at HC
        have HNW := hid hnew
        have hex : Ext wr (wr.alloc (.cells [Value.int .u8 (97 + (i : Int))].toArray 5)) := (Keep.refl _ _).alloc _
        have HEX := hid hex
        have HKEY := hid (show fiveKeys.take (i + 1) = fiveKeys.take i ++ [textOf [b]] from by
          have : b = UInt8.ofNat (97 + i) := by
            apply UInt8.toNat_inj.1
            rw [hbt, UInt8.toNat_ofNat']; omega
          subst this
          match i, h5 with
          | 0, _ => rfl
          | 1, _ => rfl
          | 2, _ => rfl
          | 3, _ => rfl
          | 4, _ => rfl)
        have HBX2 := hid (HBX.out.keep hex id)
        have HO2 := hid (ds_more EField.ok HOW.out hex)
        have HRW := hid (HR.out.ext hex)
        clear hnew hu hex
        obtain ⟨w2, hw2⟩ : ∃ w2, wr.alloc (.cells #[.int .u8 (97 + (i : Int))] 5) = w2 := ⟨_, rfl⟩
        simp only [hw2] at HC HBX2 HO2 HRW HEX
        generalize textOf [b] = key at *
        have hvl := ((HL.out.ext ETok.ok HE1.out).keep ETok.ok HRW.out (fun q h e => by omega))
        obtain ⟨hi8, hhi⟩ : ∃ hi8 : Nat, hi8 = min (i * 5 + 5) n := ⟨_, rfl⟩
        have hw5 : IntKind.i64.wrap ((i : Int) * 5) = (i : Int) * 5 := by rw [IntKind.wrap_i64]; omega
        have hw6 : IntKind.i64.wrap ((i : Int) * 5 + 5) = (i : Int) * 5 + 5 := by rw [IntKind.wrap_i64]; omega
        have hmn : min ((i : Int) * 5 + 5) (n : Int) = (hi8 : Int) := by rw [hhi]; omega
        have h8a : i * 5 ≤ hi8 := by omega
        have h8n : hi8 ≤ n := by omega
        have HHI := hid hhi
        clear hhi
        have hcut := cut_fact ETok.ok ty_tok hvl (lo := i * 5) (hi := hi8) (a := (i : Int) * 5) (b := (hi8 : Int)) (by simp) rfl (by omega) (by have := HN.out; omega)
        obtain ⟨A8, hs8, hv8⟩ := hcut
        have HV8 := hid hv8
        have t4 := HBX2.out.cell 4
        simp only [List.getElem?_toArray, List.getElem?_cons_succ, List.getElem?_cons_zero] at t4
        clear hvl hv8
        go_wp2_with fail
        refine wp_region_parts [0, 2, 3, 4, 5, 6, 7, 8, 9, 10, 11, 12] [1, 13, 14, 15] [16, 17, 18] (specOf [(13, fun u w' => BldV (fun k => w2.heap.size ≤ k) u w'), (15, fun v w' => BldS key (fun k => w2.heap.size ≤ k) v w')])
          (fun w' => Ext w2 w') ?_ (stableC_ext _) (by kernel_rfl) (by kernel_rfl) (Keep.drew (Keep.refl _ _)) ?_
        · exact stable_cons (fun v w w' h he => h.ext he) (stable_cons (fun v w w' h he => h.ext he) stable_nil)
        iterate 12
          (try simp only [Act.put, List.setIfInBounds_toArray, List.set_cons_zero, List.set_cons_succ])
          refine pure_run rfl rfl ?_
          apply Exists.intro
          refine ⟨fun w' => ?_, ?_⟩
          · go_simp
            rfl
        refine pure_nil ?_
        iterate 1
          (try simp only [Act.put, List.setIfInBounds_toArray, List.set_cons_zero, List.set_cons_succ])
          refine growP_run rfl rfl rfl ?_
          apply Exists.intro
          refine ⟨fun w' hC hK => ?_, ?_⟩
          · have t4 := (hC.cell (lt_of_cell t4) id).trans t4
            go_simp
            rfl
        (try simp only [Act.put, List.setIfInBounds_toArray, List.set_cons_zero, List.set_cons_succ])
        refine growP_eff rfl rfl rfl (fun w' hC hK => ?_) (fun v13 hv13 => ?_)
        · unfold growAt
          go_simp
          refine grow_call ((build_ok _ _ _ _ (HV8.out.ext ETok.ok hC)).mono ?_)
          intro e w'' hb
          obtain ⟨u, x, rfl, h1, h2, h3, h4⟩ := hb
          exact ⟨_, rfl, h4, ⟨x, h1, h2, h3.more fun k _ h => by have := hC.size; omega⟩⟩
        obtain ⟨_, _, x0, _, _, lv8, ov8, rfl, hl8, ho8⟩ := hv13.head
        obtain ⟨A8, d8, rfl, _⟩ := hl8.shape
        obtain ⟨A9, d9, rfl, _⟩ := ho8.shape
        clear hl8 ho8
        iterate 1
          (try simp only [Act.put, List.setIfInBounds_toArray, List.set_cons_zero, List.set_cons_succ])
          refine growP_run rfl rfl rfl ?_
          apply Exists.intro
          refine ⟨fun w' hC hK => ?_, ?_⟩
          · go_simp
            rfl
        (try simp only [Act.put, List.setIfInBounds_toArray, List.set_cons_zero, List.set_cons_succ])
        refine growP_eff rfl rfl rfl (fun w' hC hK => ?_) (fun v15 hv15 => ?_)
        · unfold growAt
          go_simp
          have h13 : BldV (fun k => w2.heap.size ≤ k) (.agg #[U8 x0.kind, .int .i64 x0.n, .string x0.s, .slice A8 x0.l.length d8, .slice A9 x0.o.length d9]) w' := hK.get (i := 13) List.mem_cons_self (by kernel_rfl)
          obtain ⟨x, hx1, hx2, hx3⟩ := h13
          refine ⟨(Keep.refl _ _).alloc _, x, hx1, hx2, _, _, rfl, [_, _, _, _, _, _], ?_, Cells.single (rdF_iff.2 ⟨_, rfl, (hx3.ext ((Keep.refl _ _).alloc _)).rd⟩)⟩
          exact (RowS.new (sz := 6) (cs := [_, _, _, _, _, _]) (n := 1) rfl (by simp [maxLen])).more fun k _ e => by have := hC.size; omega
        obtain ⟨_, _, x9, _, _, A10, d10, rfl, _⟩ := hv15.head
        refine growP_nil fun w4 hC hK => ?_
        obtain ⟨x, hx1, hx2, _, _, _, f7⟩ : BldS key (fun k => w2.heap.size ≤ k) (.slice A10 1 d10) w4 := hK (15, _) List.mem_cons_self
        change wpList _ _ _ (_ :: _ :: _ :: []) _ _
        have hC' : Ext w2 w4 := hC
        have hO4 := HO2.out.ext EField.ok hC'
        have hsrc := f7.more (S' := fun k => w2.heap.size ≤ k ∧ k < w4.heap.size) EField.ok (fun k h1 h2 => ⟨h2, h1⟩)
        have HC4 := hid hC'
        have HX1 := hid hx1
        have HX2 := hid hx2
        have HYL := hid (show ys.length = i from by
          have := congrArg List.length HFL.out.1
          rw [List.length_map, List.length_take] at this
          simp only [fiveKeys, List.length_cons, List.length_nil] at this
          omega)
        clear hC hC' hK hv13 hv15 f7 t4 hx1 hx2
        (try simp only [Act.put, List.setIfInBounds_toArray, List.set_cons_zero, List.set_cons_succ])
        refine wpList_own_append (P := Tryd.prog) (E := EField) (v := .slice A4 ys.length c4) (y := .slice A10 1 d10) w4 rfl (.tmp 24) (.tmp 38) EField.ok ty_field ?_ ?_ ?_ hO4 hsrc ?_ ?_ ?_ (Nat.le_trans HRW.out.size HC4.out.size) ?_
        · rfl
        · rfl
        · rfl
        · exact fun g hg => ⟨fun h => h.2.2 hg, fun h => by have := (HO2.out.lt hg).2; omega⟩
        · have := HYL.out; simp only [List.length_singleton]; omega
        · have := HYL.out; simp only [List.length_singleton, maxLen]; omega
        intro v' w' hown' hk hb
        obtain ⟨A7, c7, rfl, hl7, hc7⟩ := hown'.shape
        have HT5 := hid ((HBX2.out.keep HC4.out id).keep hk (fun e => by have := (HO2.out.lt (show (Value.slice A4 ys.length c4).ownBlock = some (w.heap.size + 1) from e)).1; have := HZ1.out; omega))
        have HK5 := hid (show Keep (· = w.heap.size + 1) W1 w' from (HRW.out.ext HC4.out).trans hk fun k hlt e => by
          have := (HO2.out.lt (show (Value.slice A4 ys.length c4).ownBlock = some k from e)).1; omega)
        have HO3 := hid (show Own EField w' W1.heap.size TFIELD (DS w' W1.heap.size (.slice A7 (ys ++ [F.mk key x]).length c7)) (.slice A7 (ys ++ [F.mk key x]).length c7) (ys ++ [F.mk key x]) from
          ds_next (N := w4.heap.size) EField.ok hown' HC4.out.size hk.size (fun k h => h) HRW.out.size (fun g hg => (HO2.out.lt hg).2) hb)
        have t4 := HT5.out.cell 4
        have hfz := HT5.out.frozen
        simp only [List.getElem?_toArray, List.getElem?_cons_succ, List.getElem?_cons_zero] at t4
        have HF2 := hid (show FldsOk (ys ++ [F.mk key x]) (i + 1) from ⟨by rw [HKEY.out, List.map_append, HFL.out.1]; rfl, fun f hf => by
          rcases List.mem_append.1 hf with h | h
          · exact HFL.out.2 f h
          · obtain rfl := List.mem_singleton.1 h
            exact ⟨HX1.out, HX2.out⟩⟩)
        clear hown' hk hb hO4 hsrc HC4
        generalize hm : (ys ++ [F.mk key x]).length = m at *
        have HP := hid (show ObjAt W1 (w'.setCell ⟨w.heap.size + 1, 4, none⟩ (.slice A7 m c7)) (w.heap.size + 1) (i + 1) from by
          have hka : Keep (· = w.heap.size + 1) w' (w'.setCell ⟨w.heap.size + 1, 4, none⟩ (.slice A7 m c7)) := (Keep.refl _ _).set1 4 _
          refine ⟨_, .slice A7 m c7, HF2.out, HT5.out.set_ 4 _, ?_, HK5.out.trans hka fun _ _ e => e⟩
          exact (HO3.out.keep EField.ok hka (fun q h e => by have := h.1; have := HZ1.out; omega) (fun q h e => by have := (HO3.out.lt h).1; have := HZ1.out; omega)).more EField.ok fun q _ h => ⟨h.1, Nat.lt_of_lt_of_le h.2.1 hka.size, h.2.2⟩)
        (try simp only [Act.put, List.setIfInBounds_toArray, List.set_cons_zero, List.set_cons_succ])
        go_wp2_with fail
        refine NoPanic.normal ?_
        go_wp2
        exact ⟨⟨i + 1, by omega, by go_num, HP.out⟩, by simp [intOf]; omega⟩
      · have hnX : decide ((i : Int) * 5 < n) = false := by simp; omega
        have h5X : decide ((i : Int) < 5) = true := by simp; omega
        have hw5 : IntKind.i64.wrap ((i : Int) * 5) = (i : Int) * 5 := by rw [IntKind.wrap_i64]; omega
        have hR := (HB0.out).keep HR.out (by omega)
        have HR4 := hid hR
        have HKW := hid (show Keep (fun k => w.heap.size ≤ k) w wr from ((Keep.refl (fun k => w.heap.size ≤ k) w).ext HE1.out).trans HR.out fun k _ h => by omega)
        obtain ⟨t0, t1, t2, t3, t4⟩ := blk5 HBX.out
        obtain ⟨z0, z1, z2, z3, z4⟩ := blk5 hR
        have hfz := hR.frozen
        clear hR
        go_wp2_with fail
        obtain ⟨Wf, hWf⟩ : ∃ Wf, set5 wr w.heap.size 0 (.int .u8 5) (.int .i64 0) (.string ⟨#[]⟩) (.slice none 0 0) (.slice A4 ys.length c4) = Wf := ⟨_, rfl⟩
        change bodyPost _ _ _ _ _ (set5 wr w.heap.size 0 (.int .u8 5) (.int .i64 0) (.string ⟨#[]⟩) (.slice none 0 0) (.slice A4 ys.length c4))
        have hf := set5_full HR4.out (.int .u8 5) (.int .i64 0) (.string ⟨#[]⟩) (.slice none 0 0) (.slice A4 ys.length c4)
        have hk := set5_keep wr w.heap.size 0 (.int .u8 5) (.int .i64 0) (.string ⟨#[]⟩) (.slice none 0 0) (.slice A4 ys.length c4)
        rw [hWf] at hf hk ⊢
        obtain ⟨f0, f1, f2, f3, f4⟩ := blk5 hf
        have hKW : Ext w Wf := (HKW.out.trans hk fun k _ h => by omega).mono fun k h1 h2 => by omega
        refine bodyPost_ret (v := .agg #[.int .u8 5, .int .i64 0, .string ⟨#[]⟩, .slice none 0 0, .slice A4 ys.length c4]) (by simp [results, Tryd.results12, go_sem, f0, f1, f2, f3, f4]) rfl ⟨_, ys, i, rfl, HFL.out, ?_, hKW⟩
        exact VAt.fields (HOW.out.keep EField.ok hk (fun q h e => by have := h.1; have := HZ1.out; omega) (fun q h e => by have := (HOW.out.lt h).1; have := HZ1.out; omega))
    · have h5X : decide ((i : Int) < 5) = false := by simp; omega
      have hR := (HB0.out).keep HR.out (by omega)
      have HR4 := hid hR
      have HKW := hid (show Keep (fun k => w.heap.size ≤ k) w wr from ((Keep.refl (fun k => w.heap.size ≤ k) w).ext HE1.out).trans HR.out fun k _ h => by omega)
      obtain ⟨t0, t1, t2, t3, t4⟩ := blk5 HBX.out
      obtain ⟨z0, z1, z2, z3, z4⟩ := blk5 hR
      have hfz := hR.frozen
      clear hR
      go_wp2_with fail
      obtain ⟨Wf, hWf⟩ : ∃ Wf, set5 wr w.heap.size 0 (.int .u8 5) (.int .i64 0) (.string ⟨#[]⟩) (.slice none 0 0) (.slice A4 ys.length c4) = Wf := ⟨_, rfl⟩
      change bodyPost _ _ _ _ _ (set5 wr w.heap.size 0 (.int .u8 5) (.int .i64 0) (.string ⟨#[]⟩) (.slice none 0 0) (.slice A4 ys.length c4))
      have hf := set5_full HR4.out (.int .u8 5) (.int .i64 0) (.string ⟨#[]⟩) (.slice none 0 0) (.slice A4 ys.length c4)
      have hk := set5_keep wr w.heap.size 0 (.int .u8 5) (.int .i64 0) (.string ⟨#[]⟩) (.slice none 0 0) (.slice A4 ys.length c4)
      rw [hWf] at hf hk ⊢
      obtain ⟨f0, f1, f2, f3, f4⟩ := blk5 hf
      have hKW : Ext w Wf := (HKW.out.trans hk fun k _ h => by omega).mono fun k h1 h2 => by omega
      refine bodyPost_ret (v := .agg #[.int .u8 5, .int .i64 0, .string ⟨#[]⟩, .slice none 0 0, .slice A4 ys.length c4]) (by simp [results, Tryd.results12, go_sem, f0, f1, f2, f3, f4]) rfl ⟨_, ys, i, rfl, HFL.out, ?_, hKW⟩
      exact VAt.fields (HOW.out.keep EField.ok hk (fun q h e => by have := h.1; have := HZ1.out; omega) (fun q h e => by have := (HOW.out.lt h).1; have := HZ1.out; omega))
end Go.Proofs.YtggkidnlmaindaaDoor
