/- ProjO, ProjK, ProjL, ProjM, LawRaw, ProjP: laid together. -/
import Derived.Test.YtggkidnlmaindaaDoorPxB39
import Derived.Test.YtggkidnlmaindaaDoorPxB42
import Derived.Test.YtggkidnlmaindaaDoorPxB7
import Derived.Test.YtggkidnlmaindaaDoorPxB19
import Derived.Test.YtggkidnlmaindaaDoorPxB38
import Derived.Test.YtggkidnlmaindaaDoorPxB6
import Derived.Test.YtggkidnlmaindaaDoorPxB4
import Derived.Test.YtggkidnlmaindaaDoorPxB5
import Derived.Test.YtggkidnlmaindaaDoorPxB14
set_option linter.unusedSimpArgs false
set_option linter.unusedVariables false
set_option maxHeartbeats 25600000
set_option maxRecDepth 20000
namespace Go.Proofs.YtggkidnlmaindaaDoor
open Go.RowKit
def FldsOk (ys : List F) (i : Nat) : Prop := ys.map F.key = fiveKeys.take i ∧ ∀ f ∈ ys, SVd 0 f.v ∧ f.v.size ≤ 241
def ObjIs (w : World) (e : Ending) (w' : World) : Prop := ∃ u ys m, e = .returned u ∧ FldsOk ys m ∧ VAt w' (fun _ => True) u (.mk 5 0 ⟨#[]⟩ [] ys) ∧ Ext w w'
def ObjAt (W1 wr : World) (b : Nat) (i : Nat) : Prop := ∃ ys X, FldsOk ys i ∧ Blk wr b TVAL #[.int .u8 5, .int .i64 0, .string ⟨#[]⟩, .slice none 0 0, X] ∧ Own EField wr W1.heap.size TFIELD (DS wr W1.heap.size X) X ys ∧ Keep (· = b) W1 wr
def BldV (S : BS) (u : Value) (w : World) : Prop := ∃ x, SVd 0 x ∧ x.size ≤ 241 ∧ VAt w S u x
theorem BldV.ext {S : BS} {u : Value} {w w' : World} (h : BldV S u w) (he : Ext w w') : BldV S u w' := by
 obtain ⟨x, h1, h2, h3⟩ := h; exact ⟨x, h1, h2, h3.ext he⟩
def BldS (key : ByteArray) (S : BS) (v : Value) (w : World) : Prop := ∃ x, SVd 0 x ∧ x.size ≤ 241 ∧ SlShape EField w S v 1 [F.mk key x]
theorem BldS.ext {key : ByteArray} {S : BS} {v : Value} {w w' : World} (h : BldS key S v w) (he : Ext w w') : BldS key S v w' := by
 obtain ⟨x, h1, h2, h3⟩ := h; exact ⟨x, h1, h2, h3.ext EField.ok he⟩
set_option maxRecDepth 100000 in
theorem object_ok (ts : List Tk) (v : Value) (S : BS) (w : World) (hl : Sl ETok w S v ts) : Calls Tryd.prog 12 #[v] w (ObjIs w) := by
 obtain ⟨A, c, rfl, hlc, hcm⟩ := hl.shape
 unfold maxLen at hcm
 have HL := hid (hl.more ETok.ok (S' := fun q => q < w.heap.size) fun k hk _ => hk)
 clear hl
 generalize hn : ts.length = n at *
 have HN := hid hn
 clear hn
 go_enter Tryd.func12, Tryd.ntmps12
 go_wp2_with fail
 obtain ⟨hb0, hb1, hE1⟩ := blk_pair w TVAL #[.int .u8 0, .int .i64 0, .string ⟨#[]⟩, .slice none 0 0, .slice none 0 0] #[.int .u8 5, .int .i64 0, .string ⟨#[]⟩, .slice none 0 0, .slice none 0 0]
 obtain ⟨W1, hW1⟩ : ∃ W1, (w.alloc (.cells #[.int .u8 0, .int .i64 0, .string ⟨#[]⟩, .slice none 0 0, .slice none 0 0] TVAL)).alloc (.cells #[.int .u8 5, .int .i64 0, .string ⟨#[]⟩, .slice none 0 0, .slice none 0 0] TVAL) = W1 := ⟨_, rfl⟩
 have hz1 : W1.heap.size = w.heap.size + 1 + 1 := by rw [← hW1]; simp
 rw [hW1] at hb0 hb1 hE1
 rw [hW1]
 have HB0 := hid hb0
 have HB1 := hid hb1
 have HE1 := hid hE1
 have HZ1 := hid hz1
 clear hb0 hb1 hE1 hz1 hW1
 go_loopw [4] (fun y wr => ∃ i : Nat, i ≤ 5 ∧ y = .int .i64 i ∧ ObjAt W1 wr (w.heap.size + 1) i) (fun y _ => 5 - (intOf y).toNat)
 case atStart => exact ⟨0, by omega, rfl, [], _, ⟨rfl, fun f hf => by cases hf⟩, HB1.out, Own.nil _ _ _ _, Keep.refl _ _⟩
 case round =>
  obtain ⟨i, hi, rfl, ys, X, hfl, hbx, hown, hr⟩ := hrel
  obtain ⟨A4, c4, rfl, hl4, hc4⟩ := hown.shape
  have HFL := hid hfl
  have HBX := hid hbx
  have HOW := hid hown
  have HR := hid hr
  clear hfl hbx hown hr
  by_cases h5 : i < 5
  ·by_cases hlt : i * 5 < n
   ·have h5X : (i : Int) < 5 := by omega
    have hltX : (i : Int) * 5 < n := by omega
    obtain ⟨b, hbt⟩ : ∃ b : UInt8, b.toNat = 97 + i := ⟨UInt8.ofNat (97 + i), by
     rw [UInt8.toNat_ofNat']; omega⟩
    have hu : [b].map U8 = [Value.int .u8 (97 + (i : Int))] := by
     simp only [List.map_cons, List.map_nil, U8, hbt]
     simp
    have hnew := bytes_new (w := wr) (t := 5) (f := (0, 0)) [b] (by simp [maxLen])
    rw [hu] at hnew
    have HC := convert_bytesS hnew
    simp only [List.length_singleton] at HC
    have HNW := hid hnew
    have hex : Ext wr (wr.alloc (.cells [Value.int .u8 (97 + (i : Int))].toArray 5)) := (Keep.refl _ _).alloc _
    have HEX := hid hex
    have HKEY := hid (show fiveKeys.take (i + 1) = fiveKeys.take i ++ [textOf [b]] from by
     have : b = UInt8.ofNat (97 + i) := by
      apply UInt8.toNat_inj.1
      rw [hbt, UInt8.toNat_ofNat']; omega
     subst this
     match i, h5 with
     | 0, _ => rfl
     | 1, _ => rfl
     | 2, _ => rfl
     | 3, _ => rfl
     | 4, _ => rfl)
    have HBX2 := hid (HBX.out.keep hex id)
    have HO2 := hid (ds_more EField.ok HOW.out hex)
    have HRW := hid (HR.out.ext hex)
    clear hnew hu hex
    obtain ⟨w2, hw2⟩ : ∃ w2, wr.alloc (.cells #[.int .u8 (97 + (i : Int))] 5) = w2 := ⟨_, rfl⟩
    simp only [hw2] at HC HBX2 HO2 HRW HEX
    generalize textOf [b] = key at *
    have hvl := ((HL.out.ext ETok.ok HE1.out).keep ETok.ok HRW.out (fun q h e => by omega))
    obtain ⟨hi8, hhi⟩ : ∃ hi8 : Nat, hi8 = min (i * 5 + 5) n := ⟨_, rfl⟩
    have hw5 : IntKind.i64.wrap ((i : Int) * 5) = (i : Int) * 5 := by rw [IntKind.wrap_i64]; omega
    have hw6 : IntKind.i64.wrap ((i : Int) * 5 + 5) = (i : Int) * 5 + 5 := by rw [IntKind.wrap_i64]; omega
    have hmn : min ((i : Int) * 5 + 5) (n : Int) = (hi8 : Int) := by rw [hhi]; omega
    have h8a : i * 5 ≤ hi8 := by omega
    have h8n : hi8 ≤ n := by omega
    have HHI := hid hhi
    clear hhi
    have hcut := cut_fact ETok.ok ty_tok hvl (lo := i * 5) (hi := hi8) (a := (i : Int) * 5) (b := (hi8 : Int)) (by simp) rfl (by omega) (by have := HN.out; omega)
    obtain ⟨A8, hs8, hv8⟩ := hcut
    have HV8 := hid hv8
    have t4 := HBX2.out.cell 4
    simp only [List.getElem?_toArray, List.getElem?_cons_succ, List.getElem?_cons_zero] at t4
    clear hvl hv8
    go_wp2_with fail
    refine wp_region_parts [0, 2, 3, 4, 5, 6, 7, 8, 9, 10, 11, 12] [1, 13, 14, 15] [16, 17, 18] (specOf [(13, fun u w' => BldV (fun k => w2.heap.size ≤ k) u w'), (15, fun v w' => BldS key (fun k => w2.heap.size ≤ k) v w')])
     (fun w' => Ext w2 w') ?_ (stableC_ext _) (by kernel_rfl) (by kernel_rfl) (Keep.drew (Keep.refl _ _)) ?_
    ·exact stable_cons (fun v w w' h he => h.ext he) (stable_cons (fun v w w' h he => h.ext he) stable_nil)
    iterate 12
     (try simp only [Act.put, sqa, sqb, sqc])
     refine pure_run rfl rfl ?_
     apply Exists.intro
     refine ⟨fun w' => ?_, ?_⟩
     ·go_simp
      rfl
    refine pure_nil ?_
    iterate 1
     (try simp only [Act.put, sqa, sqb, sqc])
     refine growP_run rfl rfl rfl ?_
     apply Exists.intro
     refine ⟨fun w' hC hK => ?_, ?_⟩
     ·have t4 := sqw hC t4
      go_simp
      rfl
    (try simp only [Act.put, sqa, sqb, sqc])
    refine growP_eff rfl rfl rfl (fun w' hC hK => ?_) (fun v13 hv13 => ?_)
    ·unfold growAt
     go_simp
     refine grow_call ((build_okD _ _ _ _ (HV8.out.ext ETok.ok hC)).mono ?_)
     intro e w'' hb
     obtain ⟨u, x, rfl, h1, h2, h3, h4⟩ := hb
     exact ⟨_, rfl, h4, ⟨x, h1, h2, h3.more fun k _ h => by have := hC.size; omega⟩⟩
    obtain ⟨_, _, x0, _, _, lv8, ov8, rfl, hl8, ho8⟩ := hv13.head
    obtain ⟨A8, d8, rfl, _⟩ := hl8.shape
    obtain ⟨A9, d9, rfl, _⟩ := ho8.shape
    clear hl8 ho8
    iterate 1
     (try simp only [Act.put, sqa, sqb, sqc])
     refine growP_run rfl rfl rfl ?_
     apply Exists.intro
     refine ⟨fun w' hC hK => ?_, ?_⟩
     ·go_simp
      rfl
    (try simp only [Act.put, sqa, sqb, sqc])
    refine growP_eff rfl rfl rfl (fun w' hC hK => ?_) (fun v15 hv15 => ?_)
    ·unfold growAt
     go_simp
     have h13 : BldV (fun k => w2.heap.size ≤ k) (.agg #[U8 x0.kind, .int .i64 x0.n, .string x0.s, .slice A8 x0.l.length d8, .slice A9 x0.o.length d9]) w' := hK.get (i := 13) List.mem_cons_self (by kernel_rfl)
     obtain ⟨x, hx1, hx2, hx3⟩ := h13
     refine ⟨(Keep.refl _ _).alloc _, x, hx1, hx2, _, _, rfl, [_, _, _, _, _, _], ?_, Cells.single (rdF_iff.2 ⟨_, rfl, (hx3.ext ((Keep.refl _ _).alloc _)).rd⟩)⟩
     exact (RowS.new (sz := 6) (cs := [_, _, _, _, _, _]) (n := 1) rfl (by simp [maxLen])).more fun k _ e => by have := hC.size; omega
    obtain ⟨_, _, x9, _, _, A10, d10, rfl, _⟩ := hv15.head
    refine growP_nil fun w4 hC hK => ?_
    obtain ⟨x, hx1, hx2, _, _, _, f7⟩ : BldS key (fun k => w2.heap.size ≤ k) (.slice A10 1 d10) w4 := hK (15, _) List.mem_cons_self
    change wpList _ _ _ (_ :: _ :: _ :: []) _ _
    have hC' : Ext w2 w4 := hC
    have hO4 := HO2.out.ext EField.ok hC'
    have hsrc := f7.more (S' := fun k => w2.heap.size ≤ k ∧ k < w4.heap.size) EField.ok (fun k h1 h2 => ⟨h2, h1⟩)
    have HC4 := hid hC'
    have HX1 := hid hx1
    have HX2 := hid hx2
    have HYL := hid (show ys.length = i from by
     have := congrArg List.length HFL.out.1
     rw [List.length_map, List.length_take] at this
     simp only [fiveKeys, List.length_cons, List.length_nil] at this
     omega)
    clear hC hC' hK hv13 hv15 f7 t4 hx1 hx2
    (try simp only [Act.put, sqa, sqb, sqc])
    refine wpList_own_append (P := Tryd.prog) (E := EField) (v := .slice A4 ys.length c4) (y := .slice A10 1 d10) w4 rfl (.tmp 24) (.tmp 38) EField.ok ty_field ?_ ?_ ?_ hO4 hsrc ?_ ?_ ?_ (Nat.le_trans HRW.out.size HC4.out.size) ?_
    ·rfl
    ·rfl
    ·rfl
    ·exact fun g hg => ⟨fun h => h.2.2 hg, fun h => by have := (HO2.out.lt hg).2; omega⟩
    ·have := HYL.out; simp only [List.length_singleton]; omega
    ·have := HYL.out; simp only [List.length_singleton, maxLen]; omega
    intro v' w' hown' hk hb
    obtain ⟨A7, c7, rfl, hl7, hc7⟩ := hown'.shape
    have HT5 := hid ((HBX2.out.keep HC4.out id).keep hk (fun e => by have := (HO2.out.lt (show (Value.slice A4 ys.length c4).ownBlock = some (w.heap.size + 1) from e)).1; have := HZ1.out; omega))
    have HK5 := hid (show Keep (· = w.heap.size + 1) W1 w' from (HRW.out.ext HC4.out).trans hk fun k hlt e => by
     have := (HO2.out.lt (show (Value.slice A4 ys.length c4).ownBlock = some k from e)).1; omega)
    have HO3 := hid (show Own EField w' W1.heap.size TFIELD (DS w' W1.heap.size (.slice A7 (ys ++ [F.mk key x]).length c7)) (.slice A7 (ys ++ [F.mk key x]).length c7) (ys ++ [F.mk key x]) from
     ds_next (N := w4.heap.size) EField.ok hown' HC4.out.size hk.size (fun k h => h) HRW.out.size (fun g hg => (HO2.out.lt hg).2) hb)
    have t4 := HT5.out.cell 4
    have hfz := HT5.out.frozen
    simp only [List.getElem?_toArray, List.getElem?_cons_succ, List.getElem?_cons_zero] at t4
    have HF2 := hid (show FldsOk (ys ++ [F.mk key x]) (i + 1) from ⟨by rw [HKEY.out, List.map_append, HFL.out.1]; rfl, fun f hf => by
     rcases List.mem_append.1 hf with h | h
     ·exact HFL.out.2 f h
     ·obtain rfl := List.mem_singleton.1 h
      exact ⟨HX1.out, HX2.out⟩⟩)
    clear hown' hk hb hO4 hsrc HC4
    generalize hm : (ys ++ [F.mk key x]).length = m at *
    have HP := hid (show ObjAt W1 (w'.setCell ⟨w.heap.size + 1, 4, none⟩ (.slice A7 m c7)) (w.heap.size + 1) (i + 1) from by
     have hka : Keep (· = w.heap.size + 1) w' (w'.setCell ⟨w.heap.size + 1, 4, none⟩ (.slice A7 m c7)) := (Keep.refl _ _).set1 4 _
     refine ⟨_, .slice A7 m c7, HF2.out, HT5.out.set_ 4 _, ?_, HK5.out.trans hka fun _ _ e => e⟩
     exact (HO3.out.keep EField.ok hka (fun q h e => by have := h.1; have := HZ1.out; omega) (fun q h e => by have := (HO3.out.lt h).1; have := HZ1.out; omega)).more EField.ok fun q _ h => ⟨h.1, Nat.lt_of_lt_of_le h.2.1 hka.size, h.2.2⟩)
    (try simp only [Act.put, sqa, sqb, sqc])
    go_wp2_with fail
    refine NoPanic.normal ?_
    go_wp2
    exact ⟨⟨i + 1, by omega, by go_num, HP.out⟩, by simp [intOf]; omega⟩
   ·have hnX : decide ((i : Int) * 5 < n) = false := by simp; omega
    have h5X : decide ((i : Int) < 5) = true := by simp; omega
    have hw5 : IntKind.i64.wrap ((i : Int) * 5) = (i : Int) * 5 := by rw [IntKind.wrap_i64]; omega
    have hR := (HB0.out).keep HR.out (by omega)
    have HR4 := hid hR
    have HKW := hid (show Keep (fun k => w.heap.size ≤ k) w wr from ((Keep.refl (fun k => w.heap.size ≤ k) w).ext HE1.out).trans HR.out fun k _ h => by omega)
    obtain ⟨t0, t1, t2, t3, t4⟩ := blk5 HBX.out
    obtain ⟨z0, z1, z2, z3, z4⟩ := blk5 hR
    have hfz := hR.frozen
    clear hR
    go_wp2_with fail
    obtain ⟨Wf, hWf⟩ : ∃ Wf, set5 wr w.heap.size 0 (.int .u8 5) (.int .i64 0) (.string ⟨#[]⟩) (.slice none 0 0) (.slice A4 ys.length c4) = Wf := ⟨_, rfl⟩
    change bodyPost _ _ _ _ _ (set5 wr w.heap.size 0 (.int .u8 5) (.int .i64 0) (.string ⟨#[]⟩) (.slice none 0 0) (.slice A4 ys.length c4))
    have hf := set5_full HR4.out (.int .u8 5) (.int .i64 0) (.string ⟨#[]⟩) (.slice none 0 0) (.slice A4 ys.length c4)
    have hk := set5_keep wr w.heap.size 0 (.int .u8 5) (.int .i64 0) (.string ⟨#[]⟩) (.slice none 0 0) (.slice A4 ys.length c4)
    rw [hWf] at hf hk ⊢
    obtain ⟨f0, f1, f2, f3, f4⟩ := blk5 hf
    have hKW : Ext w Wf := (HKW.out.trans hk fun k _ h => by omega).mono fun k h1 h2 => by omega
    refine bodyPost_ret (v := .agg #[.int .u8 5, .int .i64 0, .string ⟨#[]⟩, .slice none 0 0, .slice A4 ys.length c4]) (by simp [results, Tryd.results12, go_sem, f0, f1, f2, f3, f4]) rfl ⟨_, ys, i, rfl, HFL.out, ?_, hKW⟩
    exact VAt.fields (HOW.out.keep EField.ok hk (fun q h e => by have := h.1; have := HZ1.out; omega) (fun q h e => by have := (HOW.out.lt h).1; have := HZ1.out; omega))
  ·have h5X : decide ((i : Int) < 5) = false := by simp; omega
   have hR := (HB0.out).keep HR.out (by omega)
   have HR4 := hid hR
   have HKW := hid (show Keep (fun k => w.heap.size ≤ k) w wr from ((Keep.refl (fun k => w.heap.size ≤ k) w).ext HE1.out).trans HR.out fun k _ h => by omega)
   obtain ⟨t0, t1, t2, t3, t4⟩ := blk5 HBX.out
   obtain ⟨z0, z1, z2, z3, z4⟩ := blk5 hR
   have hfz := hR.frozen
   clear hR
   go_wp2_with fail
   obtain ⟨Wf, hWf⟩ : ∃ Wf, set5 wr w.heap.size 0 (.int .u8 5) (.int .i64 0) (.string ⟨#[]⟩) (.slice none 0 0) (.slice A4 ys.length c4) = Wf := ⟨_, rfl⟩
   change bodyPost _ _ _ _ _ (set5 wr w.heap.size 0 (.int .u8 5) (.int .i64 0) (.string ⟨#[]⟩) (.slice none 0 0) (.slice A4 ys.length c4))
   have hf := set5_full HR4.out (.int .u8 5) (.int .i64 0) (.string ⟨#[]⟩) (.slice none 0 0) (.slice A4 ys.length c4)
   have hk := set5_keep wr w.heap.size 0 (.int .u8 5) (.int .i64 0) (.string ⟨#[]⟩) (.slice none 0 0) (.slice A4 ys.length c4)
   rw [hWf] at hf hk ⊢
   obtain ⟨f0, f1, f2, f3, f4⟩ := blk5 hf
   have hKW : Ext w Wf := (HKW.out.trans hk fun k _ h => by omega).mono fun k h1 h2 => by omega
   refine bodyPost_ret (v := .agg #[.int .u8 5, .int .i64 0, .string ⟨#[]⟩, .slice none 0 0, .slice A4 ys.length c4]) (by simp [results, Tryd.results12, go_sem, f0, f1, f2, f3, f4]) rfl ⟨_, ys, i, rfl, HFL.out, ?_, hKW⟩
   exact VAt.fields (HOW.out.keep EField.ok hk (fun q h e => by have := h.1; have := HZ1.out; omega) (fun q h e => by have := (HOW.out.lt h).1; have := HZ1.out; omega))
theorem ty_strs : TyInfo Tryd.prog 23 9 1 16 := by
 obtain ⟨i, h1, h2, h3, h4⟩ := info_parts (show (Tryd.prog.info? 9).map (fun i => (i.zero, i.size, i.bytes)) = some (some (.string ⟨#[]⟩), 1, 16) from by kernel_rfl)
 exact ⟨Tryd.underlying23, i, _, h1, h2, h3, h4, rfl⟩
def KeysTo (w : World) (o : List F) (pick : Int) (e : Ending) (w' : World) : Prop := ∃ v' ks, e = .returned v' ∧ List.Sublist ks ((o.take 16).map F.key) ∧ (pick = 65535 → ks = (o.take 16).map F.key) ∧ Sl EStr w' (fun _ => True) v' ks ∧ Ext w w'
theorem all_bits : ∀ j : Nat, j < 16 → (bits BinOp.and .u16 ((65535 : Int) / 2 ^ j) 1 == 1) = true := by decide
set_option maxRecDepth 100000 in
theorem keys_to (w : World) (S : BS) (u : Value) (v : V) (pick : Int) (hv : VAt w S u v) (hp : (Lit.int .u16 pick).wf = true) :
  Calls Tryd.prog 13 #[u, .int .u16 pick] w (KeysTo w v.o pick) := by
 obtain ⟨lv, ov, rfl, hl, ho⟩ := hv
 obtain ⟨A, c, rfl, hlc, hcm⟩ := hl.shape
 obtain ⟨A', c', rfl, hlc', hcm'⟩ := ho.shape
 unfold maxLen at hcm'
 obtain ⟨W0, hW0⟩ : ∃ W0, w.alloc (.cells #[U8 v.kind, .int .i64 v.n, .string v.s, .slice A v.l.length c, .slice A' v.o.length c'] TVAL) = W0 := ⟨_, rfl⟩
 have hE0 : Ext w W0 := by rw [← hW0]; exact (Keep.refl _ _).alloc _
 have hb0 : Blk W0 w.heap.size TVAL #[U8 v.kind, .int .i64 v.n, .string v.s, .slice A v.l.length c, .slice A' v.o.length c'] := by rw [← hW0]; exact Blk.new _ _ _
 have HO := hid (ho.ext EField.ok hE0)
 have HE0 := hid hE0
 have HB0 := hid hb0
 clear hl ho hE0 hb0 hlc hcm
 generalize hvo : v.o = vo at *
 generalize v.kind = kk at *
 generalize v.n = nn at *
 generalize v.s = ss at *
 generalize v.l.length = ll at *
 clear hvo
 go_enter Tryd.func13, Tryd.ntmps13
 go_wp2_with fail
 clear hW0
 go_loopw [5, 6] (fun x y wr => ∃ (j : Nat) (ks : List ByteArray), j ≤ vo.length ∧ j ≤ 16 ∧ y = .int .i64 j ∧ List.Sublist ks ((vo.take j).map F.key) ∧ (pick = 65535 → ks = (vo.take j).map F.key) ∧ Own EStr wr W0.heap.size 9 (fun _ => False) x ks ∧ Ext W0 wr) (fun _ y _ => 16 - (intOf y).toNat)
 case atStart => exact ⟨0, [], by omega, by omega, rfl, List.Sublist.refl _, (fun _ => rfl), Own.nil _ _ _ _, Keep.refl _ _⟩
 case round =>
  obtain ⟨j, ks, hj, hj16, rfl, hsub, hall, hown, hr⟩ := hrel
  have HALL := hid hall
  clear hall
  obtain ⟨A4, c4, rfl, hl4, hc4⟩ := hown.shape
  have x4 := (HB0.out.keep hr id).cell 4
  simp only [List.getElem?_toArray, List.getElem?_cons_succ, List.getElem?_cons_zero] at x4
  have HSB := hid hsub
  have HOW := hid hown
  have HR := hid hr
  by_cases hlt : j < vo.length
  ·by_cases h16 : j < 16
   ·obtain ⟨b1, f1, d1, rfl, _, _, hr1, hc1⟩ := (HO.out.ext EField.ok hr).at_ EField.ok hlt
    obtain ⟨lv1, ov1, rfl, ⟨D1, g1, rfl⟩, ⟨D2, g2, rfl⟩, hva⟩ := EField_cells hr1
    have p0 := hc1 0 _ rfl
    have e5 : EField.size = 6 := rfl
    simp only [e5, Nat.add_zero] at p0
    have HTS := hid (take_succ_get vo j hlt)
    have hjX : (j : Int) < vo.length := by omega
    have hjY : (j : Int) < 16 := by omega
    clear hsub hown hr hc1 hr1 hva
    generalize vo[j] = y at *
    have hst : Ext wr (wr.alloc (.cells #[.string y.key] 9)) := (Keep.refl _ _).alloc _
    have HOb := hid (HOW.out.ext EStr.ok hst)
    have HRx := hid (RowS.new (w := wr) (t := 9) (sz := 1) (n := 1) (cs := [.string y.key]) rfl (by simp [maxLen]) (0, 0))
    have HDx := hid (Cells.single (E := EStr) (w := wr.alloc (.cells #[.string y.key] 9)) (S := fun _ => False) (x := y.key) (cs := [.string y.key]) rfl)
    have HST := hid hst
    have HLN := hid (show ks.length ≤ j by
     have := HSB.out.length_le
     rw [List.length_map, List.length_take] at this; omega)
    clear hst
    cases hbit : (bits BinOp.and .u16 (pick / 2 ^ j) 1 == 1) with
    | true =>
     go_wp2_with (at_builtin; refine wpList_own_append2 (ys := [y.key]) _ rfl (.tmp 24) (.tmp 31) EStr.ok ty_strs rfl rfl rfl HOb.out HRx.out HDx.out ?d1 ?d2 ?d3 ?d4 ?_)
     case d1 => exact fun g hg => ⟨fun h => h, fun h => h⟩
     case d2 => have := HLN.out; simp only [List.length_singleton]; omega
     case d3 => have := HLN.out; simp only [List.length_singleton, maxLen]; omega
     case d4 => exact Nat.le_trans HR.out.size HST.out.size
     intro v' w' hown' hk hb
     obtain ⟨A7, c7, rfl, hl7, hc7⟩ := hown'.shape
     have HK := hid (show Ext W0 w' from (HR.out.ext HST.out).trans hk fun k hlt e => by
      have := (HOW.out.lt (show (Value.slice A4 ks.length c4).ownBlock = some k from e)).1; omega)
     have HO3 := hid (hown'.more (S' := fun _ => False) EStr.ok fun k _ h => by rcases h with h | h <;> exact h)
     have HS3 := hid (show List.Sublist (ks ++ [y.key]) ((vo.take (j + 1)).map F.key) from by
      rw [HTS.out, List.map_append]; exact HSB.out.append (List.Sublist.refl _))
     have HA3 := hid (show pick = 65535 → ks ++ [y.key] = (vo.take (j + 1)).map F.key from fun e => by rw [HTS.out, List.map_append, HALL.out e]; rfl)
     clear hown' hk hb HOb HRx HDx HST
     go_wp2
     exact ⟨⟨j + 1, ks ++ [y.key], by omega, by omega, by go_num, HS3.out, HA3.out, HO3.out, HK.out⟩, by simp [intOf]; omega⟩
    | false =>
     have HS3 := hid (show List.Sublist ks ((vo.take (j + 1)).map F.key) from by
      rw [HTS.out, List.map_append]; exact HSB.out.trans (List.sublist_append_left _ _))
     have HA3 := hid (show pick = 65535 → ks = (vo.take (j + 1)).map F.key from fun e => by rw [e, all_bits j h16] at hbit; cases hbit)
     clear HOb HRx HDx HST
     go_wp2
     exact ⟨⟨j + 1, ks, by omega, by omega, by go_num, HS3.out, HA3.out, HOW.out, HR.out⟩, by simp [intOf]; omega⟩
   ·have hjX : (j : Int) < vo.length := by omega
    have hjY : ¬ (j : Int) < 16 := by omega
    have HT := hid (show j = 16 by omega)
    clear hsub hown hr
    go_wp2
    go_ret
    refine ⟨_, ks, rfl, ?_, (fun e => by have := HALL.out e; rw [HT.out] at this; exact this), (HOW.out.sl EStr.ok).more EStr.ok fun _ _ _ => trivial, HE0.out.ext HR.out⟩
    have := HSB.out; rw [HT.out] at this; exact this
  ·have hjX : ¬ (j : Int) < vo.length := by omega
   clear hsub hown hr
   go_wp2
   go_ret
   refine ⟨_, ks, rfl, ?_, (fun e => by have h1 := HALL.out e; rw [List.take_of_length_le (by omega)] at h1; rw [List.take_of_length_le (by omega)]; exact h1), (HOW.out.sl EStr.ok).more EStr.ok fun _ _ _ => trivial, HE0.out.ext HR.out⟩
   have h1 := HSB.out
   rw [List.take_of_length_le (by omega)] at h1
   rw [List.take_of_length_le (by omega)]; exact h1
abbrev clwF (b : Nat) : Value := .func (.func 47) #[] #[.pointer (some ⟨b, 0, none⟩)]
theorem with1_ok (w : World) (b : Nat) (fs : List ByteArray) (fv : Value) (S : BS) (key : ByteArray) (c1 c2 c3 c4 c5 : Value) (h : w.cell? ⟨b, 0, none⟩ = some fv) (hs : Sl EStr w S fv fs) :
  Calls Tryd.prog 47 #[.agg #[.string key, c1, c2, c3, c4, c5], .pointer (some ⟨b, 0, none⟩)] w fun e w' => e = .returned (.bool (!amongL fs key)) ∧ Ext w w' := by
 obtain ⟨A, c, rfl, hlc, hcm⟩ := hs.shape
 have hlt := lt_of_cell h
 have hE : Ext w (w.alloc (.cells #[.string key, c1, c2, c3, c4, c5] TFIELD)) := (Keep.refl _ _).alloc _
 have HS := hid (hs.ext EStr.ok hE)
 have HE := hid hE
 have hb := (hE.cell hlt id).trans h
 go_enter Tryd.func47, Tryd.ntmps47
 clear hs hE
 go_wp2_with fail
 refine (among_ok _ S _ fs key HS.out).mono ?_
 rintro e w2 ⟨rfl, hE2⟩
 have HE2 := hid (HE.out.ext hE2)
 clear hE2
 go_wp2
 go_ret
 exact ⟨rfl, HE2.out⟩
theorem windex_field (w : World) (S : BS) (v : Value) (o : List F) (b : Nat) (fs : List ByteArray) (fv : Value) (S2 : BS) (h : Sl EField w S v o) (hb : w.cell? ⟨b, 0, none⟩ = some fv) (hs : Sl EStr w S2 fv fs) :
  Calls Tryd.prog 57 #[v, clwF b] w fun e w' =>
   ((e = .returned (.int .i64 (-1)) ∧ Stay fs o o.length) ∨ ∃ k : Nat, e = .returned (.int .i64 (k : Int)) ∧ Stay fs o k ∧ GoesAt fs o k) ∧ Ext w w' := by
 obtain ⟨A, c, rfl, hlc, hcm⟩ := h.shape
 unfold maxLen at hcm
 have hblt := lt_of_cell hb
 have HA := hid h
 have HS := hid hs
 generalize hn : o.length = n at *
 have HN := hid hn
 clear h hn hs
 go_enter Tryd.func57, Tryd.ntmps57
 go_wp2
 go_loopw [8] (fun i wr => ∃ j : Nat, j ≤ n ∧ i = .int .i64 j ∧ Stay fs o j ∧ Ext w wr) (fun i _ => n - (intOf i).toNat)
 case atStart => exact ⟨0, by omega, rfl, fun i _ h => by omega, Keep.refl _ _⟩
 case round =>
  obtain ⟨j, hj, rfl, hfl, hEj⟩ := hrel
  have HF := hid hfl
  clear hfl
  by_cases hlt : j < n
  ·have hjm : j < o.length := by rw [HN.out]; exact hlt
   obtain ⟨b1, o1, c0, rfl, _, _, hrd, hcell⟩ := (HA.out.ext EField.ok hEj).at_ EField.ok hjm
   generalize hm : o[j]'hjm = m at *
   obtain ⟨lv, ov, rfl, ⟨A1, d1, rfl⟩, ⟨A2, d2, rfl⟩, _⟩ := EField_cells hrd
   have e0 := hcell 0 _ rfl
   have e1 := hcell 1 _ rfl
   have e2 := hcell 2 _ rfl
   have e3 := hcell 3 _ rfl
   have e4 := hcell 4 _ rfl
   have e5 := hcell 5 _ rfl
   have hz : EField.size = 6 := rfl
   simp only [hz, Nat.add_zero] at e0 e1 e2 e3 e4 e5
   have hbj := (hEj.cell hblt id).trans hb
   have HM := hid hm
   have HSJ := hid (HS.out.ext EStr.ok hEj)
   clear hz hcell hrd hm
   obtain ⟨p, hp⟩ : ∃ p : Bool, goes fs m = p := ⟨_, rfl⟩
   go_wp2_with fail
   refine (with1_ok _ _ fs _ _ _ _ _ _ _ _ hbj HSJ.out).mono ?_
   rintro e w2 ⟨rfl, hE2⟩
   rw [show (!amongL fs m.key) = p from hp]
   have HE := hid (hEj.ext hE2)
   have HP := hid hp
   clear hE2 hEj hp
   cases p with
   | true =>
    go_wp2
    go_ret
    exact ⟨.inr ⟨j, rfl, HF.out, hjm, by rw [HM.out]; exact HP.out⟩, HE.out⟩
   | false =>
    go_wp2
    go_roundw
    case rel =>
     refine ⟨j + 1, by omega, by go_num, fun i hi hij => ?_, HE.out⟩
     rcases Nat.lt_or_ge i j with h | h
     ·exact HF.out i hi h
     ·obtain rfl : i = j := by omega
      rw [HM.out]; exact HP.out
    case measure => simp [intOf]; omega
  ·obtain rfl : j = n := by omega
   have HE := hid hEj
   clear hEj
   go_wp2
   go_ret
   exact ⟨.inl ⟨rfl, HF.out⟩, HE.out⟩
theorem wcontains_ok (w : World) (S : BS) (v : Value) (o : List F) (b : Nat) (fs : List ByteArray) (fv : Value) (S2 : BS) (h : Sl EField w S v o) (hb : w.cell? ⟨b, 0, none⟩ = some fv) (hs : Sl EStr w S2 fv fs) :
  Calls Tryd.prog 46 #[v, clwF b] w fun e w' => e = .returned (.bool (o.any (goes fs))) ∧ Ext w w' := by
 have HI := hid (windex_field w S v o b fs fv S2 h hb hs)
 obtain ⟨A, c, rfl, hlc, hcm⟩ := h.shape
 clear h
 go_enter Tryd.func46, Tryd.ntmps46
 go_wp2_with fail
 refine HI.out.mono ?_
 rintro e w2 ⟨⟨rfl, hst⟩ | ⟨k, rfl, hst, hg⟩, hE⟩
 ·have HE := hid hE
  have HR := hid (show o.any (goes fs) = false from by
   rw [List.any_eq_false]
   intro f hf
   obtain ⟨i, hi, rfl⟩ := List.getElem_of_mem hf
   simp [hst i hi hi])
  clear hE hst
  go_wp2
  go_ret
  exact ⟨by rw [HR.out]; rfl, HE.out⟩
 ·have HE := hid hE
  have HR := hid (show o.any (goes fs) = true from by
   obtain ⟨hk, hg⟩ := hg
   exact List.any_eq_true.2 ⟨_, List.getElem_mem hk, hg⟩)
  have hk : ¬ ((k : Int) < 0) := by omega
  have hk2 : decide ((0 : Int) ≤ k) = true := by simp
  clear hE hst hg
  go_wp2
  go_ret
  exact ⟨by rw [HR.out]; first | rfl | simp, HE.out⟩
theorem within_create (w : World) (S S2 : BS) (v : V) (lv ov fv : Value) (fs : List ByteArray) (hv : VAt w S (.agg #[U8 v.kind, .int .i64 v.n, .string v.s, lv, ov]) v) (hk : v.kind = 5) (hs : Sl EStr w S2 fv fs) :
  Calls Tryd.prog 22 #[.agg #[.int .u8 1, .int .u32 0, .int .u32 0, .int .u8 5, .int .i64 v.n, .string v.s, lv, ov, .slice none 0 0], fv] w fun e w' => e = .returned (.bool (!v.o.any (goes fs))) ∧ Ext w w' := by
 obtain ⟨lv', ov', e, hl, ho⟩ := hv
 simp at e
 obtain ⟨rfl, rfl⟩ := e
 obtain ⟨A, c, rfl, hlc, hcm⟩ := hl.shape
 obtain ⟨A', c', rfl, hlc', hcm'⟩ := ho.shape
 obtain ⟨B, d, rfl, _, _⟩ := hs.shape
 obtain ⟨W0, hW0⟩ : ∃ W0, (w.alloc (.cells #[.int .u8 1, .int .u32 0, .int .u32 0, .int .u8 5, .int .i64 v.n, .string v.s, .slice A v.l.length c, .slice A' v.o.length c', .slice none 0 0] 45)).alloc (.cells #[.slice B fs.length d] 23) = W0 := ⟨_, rfl⟩
 have hE0 : Ext w W0 := by rw [← hW0]; exact ((Keep.refl _ _).alloc _).alloc _
 have hb0 : Blk W0 w.heap.size 45 #[.int .u8 1, .int .u32 0, .int .u32 0, .int .u8 5, .int .i64 v.n, .string v.s, .slice A v.l.length c, .slice A' v.o.length c', .slice none 0 0] := by rw [← hW0]; exact (Blk.new _ _ _).alloc _
 have hb1 : Blk W0 (w.heap.size + 1) 23 #[.slice B fs.length d] := by
  have := Blk.new (w.alloc (.cells #[.int .u8 1, .int .u32 0, .int .u32 0, .int .u8 5, .int .i64 v.n, .string v.s, .slice A v.l.length c, .slice A' v.o.length c', .slice none 0 0] 45)) 23 #[.slice B fs.length d]
  rw [World.size_alloc] at this
  rw [← hW0]; exact this
 have HO := hid (ho.ext EField.ok hE0)
 have HS := hid (hs.ext EStr.ok hE0)
 have HE0 := hid hE0
 have q0 := hb0.cell 0
 have q3 := hb0.cell 3
 have q7 := hb0.cell 7
 have f0 := hb1.cell 0
 simp only [List.getElem?_toArray, List.getElem?_cons_succ, List.getElem?_cons_zero] at q0 q3 q7 f0
 have HW := hid (wcontains_ok W0 S _ v.o (w.heap.size + 1) fs _ S2 HO.out f0 HS.out)
 clear hl ho hs hE0 hb0 hb1
 go_enter Tryd.func22, Tryd.ntmps22
 go_wp2_with fail
 refine HW.out.mono ?_
 rintro e w2 ⟨rfl, hE⟩
 have HE := hid (HE0.out.ext hE)
 obtain ⟨r, hr⟩ : ∃ r, v.o.any (goes fs) = r := ⟨_, rfl⟩
 rw [hr]
 have HR := hid hr
 clear hr
 clear hE hW0 q0 q3 q7 f0
 go_wp2
 go_ret
 exact ⟨by rw [HR.out]; first | rfl | (cases r <;> rfl), HE.out⟩
abbrev qA : V := .mk 2 1 ⟨#[]⟩ [] []
abbrev qB : V := .mk 2 2 ⟨#[]⟩ [] []
abbrev qV : V := .mk 5 0 ⟨#[]⟩ [] [.mk ⟨#[97]⟩ qA, .mk ⟨#[98]⟩ qB]
abbrev qW : V := .mk 5 0 ⟨#[]⟩ [] [.mk ⟨#[98]⟩ qB]
theorem q_proj : projV qV [⟨#[98]⟩] = qW := by
 rw [projV, if_pos (show qV.kind = 5 from rfl)]
 have h1 : goes [⟨#[98]⟩] (.mk ⟨#[97]⟩ qA) = true := by simp [goes, amongL, F.key, ByteArray.toList_eq]
 have h2 : goes [⟨#[98]⟩] (.mk ⟨#[98]⟩ qB) = false := by simp [goes, amongL, F.key, ByteArray.toList_eq]
 simp [V.o, h1, h2]
theorem q_size : qV.size ≤ 1000000 := by simp [V.size, V.sizes, F.sizes, F.size]
theorem q_in : (qW.o.any (goes [⟨#[98]⟩])) = false := by simp [V.o, goes, amongL, F.key, ByteArray.toList_eq]
theorem q_flat (w : World) (S : BS) (k : UInt8) (n : Int) (s : ByteArray) : rdV w S (.mk k n s [] []) [U8 k, .int .i64 n, .string s, .slice none 0 0, .slice none 0 0] := rdV_iff.2 ⟨_, _, rfl, Sl.nil _ _, Sl.nil _ _⟩
theorem q_snd1 : psnd [⟨#[97]⟩, ⟨#[98]⟩] = true := psnd_five (m := 5) (by show List.Sublist _ (fiveKeys.take 5); exact (List.Sublist.cons_cons _ (List.Sublist.cons_cons _ (List.nil_sublist _))))
theorem q_snd2 : psnd [⟨#[98]⟩, ⟨#[97]⟩] = false := by
 refine psnd_bad (i := 1) (by simp) ?_
 rw [badAt_succ (g := ⟨#[98]⟩) (f := ⟨#[97]⟩) rfl rfl]
 have : leB ⟨#[97]⟩ ⟨#[98]⟩ = true := by unfold leB; simp only [ByteArray.toList_eq]; decide
 rw [this]; simp
theorem q_str (w : World) (a : ByteArray) : Sl EStr (w.alloc (.cells #[.string a] 9)) (fun _ => True) (.slice (some ⟨w.heap.size, 0, none⟩) 1 1) [a] :=
 ⟨[.string a], (RowS.new (w := w) (t := 9) (sz := 1) (n := 1) (cs := [.string a]) rfl (by simp [maxLen]) (0, 0)).more fun _ _ _ => trivial, Cells.single rfl⟩
theorem q_str2 (w : World) (a b : ByteArray) : Sl EStr (w.alloc (.cells #[.string a, .string b] 9)) (fun _ => True) (.slice (some ⟨w.heap.size, 0, none⟩) 2 2) [a, b] :=
 ⟨[.string a, .string b], (RowS.new (w := w) (t := 9) (sz := 1) (n := 2) (cs := [.string a, .string b]) rfl (by simp [maxLen]) (0, 0)).more fun _ _ _ => trivial, ⟨[.string a], [.string b], rfl, rfl, Cells.single rfl⟩⟩
theorem q_at (w : World) (b1 : Nat) (h1 : Blk w b1 TFIELD #[.string ⟨#[97]⟩, .int .u8 2, .int .i64 1, .string ⟨#[]⟩, .slice none 0 0, .slice none 0 0, .string ⟨#[98]⟩, .int .u8 2, .int .i64 2, .string ⟨#[]⟩, .slice none 0 0, .slice none 0 0]) :
  VAt w (fun _ => True) (.agg #[.int .u8 5, .int .i64 0, .string ⟨#[]⟩, .slice none 0 0, .slice (some ⟨b1, 0, none⟩) 2 2]) qV := by
 have hA : EField.rd w (fun _ => True) [.string ⟨#[97]⟩, .int .u8 2, .int .i64 1, .string ⟨#[]⟩, .slice none 0 0, .slice none 0 0] (F.mk ⟨#[97]⟩ qA) := rdF_iff.2 ⟨_, rfl, q_flat w _ 2 1 ⟨#[]⟩⟩
 have hB : EField.rd w (fun _ => True) [.string ⟨#[98]⟩, .int .u8 2, .int .i64 2, .string ⟨#[]⟩, .slice none 0 0, .slice none 0 0] (F.mk ⟨#[98]⟩ qB) := rdF_iff.2 ⟨_, rfl, q_flat w _ 2 2 ⟨#[]⟩⟩
 refine ⟨.slice none 0 0, .slice (some ⟨b1, 0, none⟩) 2 2, rfl, Sl.nil _ _, ⟨[.string ⟨#[97]⟩, .int .u8 2, .int .i64 1, .string ⟨#[]⟩, .slice none 0 0, .slice none 0 0] ++ ([.string ⟨#[98]⟩, .int .u8 2, .int .i64 2, .string ⟨#[]⟩, .slice none 0 0, .slice none 0 0] ++ []), ⟨rfl, _, 2, rfl, by simp [V.o], by simp [maxLen], fun _ => ⟨b1, 0, rfl, trivial, h1.lt, fun j u hu => by rw [Nat.zero_add, h1.cell]; simpa using hu⟩⟩, ⟨_, _, rfl, hA, ⟨_, _, rfl, hB, rfl⟩⟩⟩⟩
theorem known18_ok (w0 w : World) (hv : ValAny w0) (h0 : Ext w0 w) : Calls Tryd.prog 9 #[] w fun e w' => e = .returned (.bool true) ∧ Ext w w' := by
 have HV := hid hv
 have H0 := hid h0
 clear hv h0
 have hE : Ext w (((w.alloc (.cells #[.string ⟨#[97]⟩, .int .u8 2, .int .i64 1, .string ⟨#[]⟩, .slice none 0 0, .slice none 0 0, .string ⟨#[98]⟩, .int .u8 2, .int .i64 2, .string ⟨#[]⟩, .slice none 0 0, .slice none 0 0] TFIELD)).alloc (.cells #[.int .u8 5, .int .i64 0, .string ⟨#[]⟩, .slice none 0 0, .slice (some ⟨w.heap.size, 0, none⟩) 2 2] TVAL)).alloc (.cells #[.string ⟨#[98]⟩] 9)) := (((Keep.refl _ _).alloc _).alloc _).alloc _
 have hb0 : Blk (((w.alloc (.cells #[.string ⟨#[97]⟩, .int .u8 2, .int .i64 1, .string ⟨#[]⟩, .slice none 0 0, .slice none 0 0, .string ⟨#[98]⟩, .int .u8 2, .int .i64 2, .string ⟨#[]⟩, .slice none 0 0, .slice none 0 0] TFIELD)).alloc (.cells #[.int .u8 5, .int .i64 0, .string ⟨#[]⟩, .slice none 0 0, .slice (some ⟨w.heap.size, 0, none⟩) 2 2] TVAL)).alloc (.cells #[.string ⟨#[98]⟩] 9)) w.heap.size TFIELD _ := ((Blk.new w TFIELD #[.string ⟨#[97]⟩, .int .u8 2, .int .i64 1, .string ⟨#[]⟩, .slice none 0 0, .slice none 0 0, .string ⟨#[98]⟩, .int .u8 2, .int .i64 2, .string ⟨#[]⟩, .slice none 0 0, .slice none 0 0]).alloc (.cells #[.int .u8 5, .int .i64 0, .string ⟨#[]⟩, .slice none 0 0, .slice (some ⟨w.heap.size, 0, none⟩) 2 2] TVAL)).alloc (.cells #[.string ⟨#[98]⟩] 9)
 have hs2 := q_str ((w.alloc (.cells #[.string ⟨#[97]⟩, .int .u8 2, .int .i64 1, .string ⟨#[]⟩, .slice none 0 0, .slice none 0 0, .string ⟨#[98]⟩, .int .u8 2, .int .i64 2, .string ⟨#[]⟩, .slice none 0 0, .slice none 0 0] TFIELD)).alloc (.cells #[.int .u8 5, .int .i64 0, .string ⟨#[]⟩, .slice none 0 0, .slice (some ⟨w.heap.size, 0, none⟩) 2 2] TVAL)) ⟨#[98]⟩
 rw [World.size_alloc, World.size_alloc] at hs2
 go_enter Tryd.func9, Tryd.ntmps9
 go_wp2_with fail
 generalize ((w.alloc (.cells #[.string ⟨#[97]⟩, .int .u8 2, .int .i64 1, .string ⟨#[]⟩, .slice none 0 0, .slice none 0 0, .string ⟨#[98]⟩, .int .u8 2, .int .i64 2, .string ⟨#[]⟩, .slice none 0 0, .slice none 0 0] TFIELD)).alloc (.cells #[.int .u8 5, .int .i64 0, .string ⟨#[]⟩, .slice none 0 0, .slice (some ⟨w.heap.size, 0, none⟩) 2 2] TVAL)).alloc (.cells #[.string ⟨#[98]⟩] 9) = w1 at *
 refine (pval_ok w1 _ _ _ _ qV [⟨#[98]⟩] (q_at w1 _ hb0) q_size hs2).mono ?_
 rw [q_proj]
 rintro e w2 ⟨u, rfl, hva, hE2⟩
 obtain ⟨lv, ov, hu, hl, ho⟩ := hva
 obtain ⟨A1, c1, hl1, _⟩ := hl.shape
 obtain rfl : lv = .slice A1 0 c1 := hl1
 obtain ⟨A2, c2, ho1, _⟩ := ho.shape
 obtain rfl : ov = .slice A2 1 c2 := ho1
 obtain rfl : u = .agg #[.int .u8 5, .int .i64 0, .string ⟨#[]⟩, .slice A1 0 c1, .slice A2 1 c2] := hu
 have hA : Ext w2 (w2.alloc (.cells #[.int .u8 5, .int .i64 0, .string ⟨#[]⟩, .slice A1 0 c1, .slice A2 1 c2] TVAL)) := (Keep.refl _ _).alloc _
 have hb2 := Blk.new w2 TVAL #[.int .u8 5, .int .i64 0, .string ⟨#[]⟩, .slice A1 0 c1, .slice A2 1 c2]
 have ho3 := ho.ext EField.ok hA
 have hl3 := hl.ext EVal.ok hA
 obtain ⟨b1, f1, d1, rfl, _, _, hr1, hc1⟩ := ho3.at_ EField.ok (k := 0) (by simp [V.o])
 obtain ⟨lv1, ov1, rfl, ⟨D1, g1, rfl⟩, ⟨D2, g2, rfl⟩, _⟩ := EField_cells hr1
 generalize hw3 : w2.alloc (.cells #[.int .u8 5, .int .i64 0, .string ⟨#[]⟩, .slice A1 0 c1, .slice (some ⟨b1, f1, none⟩) 1 c2] TVAL) = w3 at *
 have p0 : w3.cell? ⟨b1, f1, none⟩ = some (.string ⟨#[98]⟩) := hc1 0 _ rfl
 have p2 : w3.cell? ⟨b1, f1 + 2, none⟩ = some (.int .i64 2) := hc1 2 _ rfl
 have HE := hid (hE.ext (hE2.ext hA))
 have HVW := hid (show VAt w3 (fun _ => True) (.agg #[.int .u8 5, .int .i64 0, .string ⟨#[]⟩, .slice A1 0 c1, .slice (some ⟨b1, f1, none⟩) 1 c2]) qW from ⟨_, _, rfl, hl3, ho3⟩)
 have HB2 := hid hb2
 clear hE hb0 hs2 hE2 hA hb2 ho3 hl3 ho hl hc1 hr1
 obtain ⟨z0, z1, z2, z3, z4⟩ := blk5 HB2.out
 have hn : (2 : Int) = 2 := rfl
 go_wp2_with fail
 have hk := q_str2 w3 ⟨#[97]⟩ ⟨#[98]⟩
 have hA : Ext w3 (w3.alloc (.cells #[.string ⟨#[97]⟩, .string ⟨#[98]⟩] 9)) := (Keep.refl _ _).alloc _
 refine (psound_ok _ _ _ _ hk (fun f hf => by simp at hf; rcases hf with rfl | rfl <;> exact Nat.le_trans (show _ ≤ 1 from Nat.le_refl _) (by omega)) (HV.out.ext (H0.out.ext (HE.out.ext hA)))).mono ?_
 rw [q_snd1]
 rintro e w4 ⟨rfl, hE⟩
 replace HE := hid (HE.out.ext (hA.ext hE))
 replace HVW := hid (HVW.out.ext (hA.ext hE))
 replace HB2 := hid (HB2.out.keep (hA.ext hE) id)
 clear hw3 hk hA hE p0 p2 z0 z1 z2 z3 z4
 go_wp2_with fail
 have hk := q_str2 w4 ⟨#[98]⟩ ⟨#[97]⟩
 have hA : Ext w4 (w4.alloc (.cells #[.string ⟨#[98]⟩, .string ⟨#[97]⟩] 9)) := (Keep.refl _ _).alloc _
 refine (psound_ok _ _ _ _ hk (fun f hf => by simp at hf; rcases hf with rfl | rfl <;> exact Nat.le_trans (show _ ≤ 1 from Nat.le_refl _) (by omega)) (HV.out.ext (H0.out.ext (HE.out.ext hA)))).mono ?_
 rw [q_snd2]
 rintro e w5 ⟨rfl, hE⟩
 replace HE := hid (HE.out.ext (hA.ext hE))
 replace HVW := hid (HVW.out.ext (hA.ext hE))
 replace HB2 := hid (HB2.out.keep (hA.ext hE) id)
 clear hk hA hE
 obtain ⟨z0, z1, z2, z3, z4⟩ := blk5 HB2.out
 go_wp2_with fail
 have hk := q_str w5 ⟨#[98]⟩
 have hA : Ext w5 (w5.alloc (.cells #[.string ⟨#[98]⟩] 9)) := (Keep.refl _ _).alloc _
 refine (within_create _ _ _ qW _ _ _ _ (HVW.out.ext hA) rfl hk).mono ?_
 rw [q_in]
 rintro e w6 ⟨rfl, hE⟩
 replace HE := hid (HE.out.ext (hA.ext hE))
 clear hk hA hE z0 z1 z2 z3 z4
 go_wp2
 go_ret
 exact ⟨rfl, HE.out⟩
end Go.Proofs.YtggkidnlmaindaaDoor
