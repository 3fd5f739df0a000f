/- ValDeep, RefWeight, PathSounds, Do6A: laid together. -/
import Derived.Test.YtggkidnlmaindaaDoorPxB14
import Derived.Test.YtggkidnlmaindaaDoorPxB6
import Derived.Test.YtggkidnlmaindaaDoorPxB4
import Derived.Test.YtggkidnlmaindaaDoorPxB10
import Derived.Test.YtggkidnlmaindaaDoorPxB13
import Derived.Test.YtggkidnlmaindaaDoorPxB15
set_option linter.unusedSimpArgs false
set_option linter.unusedVariables false
set_option maxHeartbeats 25600000
set_option maxRecDepth 20000
namespace Go.Proofs.YtggkidnlmaindaaDoor
open Go.RowKit Go.Shelf
attribute [local go_sem] Oper.semAt_some
mutual
theorem V.deep_lt : ∀ v : V, v.deep < v.size
 | .mk k n s l o => by
  have h1 := V.deeps_le l
  have h2 := F.deeps_le o
  rw [V.deep, V.size]; omega
theorem V.deeps_le : ∀ l : List V, V.deeps l ≤ V.sizes l
 | [] => by simp [V.deeps]
 | v :: vs => by
  have h1 := V.deep_lt v
  have h2 := V.deeps_le vs
  rw [V.deeps, V.sizes]; omega
theorem F.deep_le : ∀ f : F, f.deep ≤ f.size
 | .mk k v => by
  have h1 := V.deep_lt v
  rw [F.deep, F.size]; omega
theorem F.deeps_le : ∀ l : List F, F.deeps l ≤ F.sizes l
 | [] => by simp [F.deeps]
 | f :: fs => by
  have h1 := F.deep_le f
  have h2 := F.deeps_le fs
  rw [F.deeps, F.sizes]; omega
end
end Go.Proofs.YtggkidnlmaindaaDoor
namespace Go.Proofs.YtggkidnlmaindaaDoor
open Go.RowKit
theorem wrap_two (a b : Int) : wrap64 (wrap64 a + wrap64 b) = wrap64 (a + b) := by unfold wrap64; omega
theorem rweight_any : ∀ (m : Nat) (x : V), x.size ≤ m → ∀ (u : Value) (S1 : BS) (w : World), VAt w S1 u x →
  Calls Tryd.prog 43 #[u] w fun e w' => e = .returned (.int .i64 (wrap64 x.weight)) ∧ Ext w w' := by
 intro m
 induction m with
 | zero => intro x h; have := x.size_pos; omega
 | succ m ih =>
 intro x hsz u S1 w hu
 have hlen := V.size_eq x
 have HIH := hid ih
 have HLM := hid (fun (z : V) (hz : z ∈ x.l) => (by have := V.sizes_mem hz; omega : z.size ≤ m))
 have HOM := hid (fun (z : F) (hz : z ∈ x.o) => (by have := F.sizes_mem hz; omega : z.v.size ≤ m))
 skip
 have HRES := hid (show wrap64 (1 + x.s.size + V.weights x.l + F.weights x.o) = wrap64 x.weight from by rw [V.weight_eq]; congr 1; omega)
 obtain ⟨res, hres⟩ : ∃ r, wrap64 x.weight = r := ⟨_, rfl⟩
 rw [hres] at HRES ⊢
 clear ih hlen hsz hres
 obtain ⟨l1, o1, rfl, h1, h2⟩ := hu
 obtain ⟨A1, c1, rfl, hc1, hm1⟩ := h1.shape
 obtain ⟨A2, c2, rfl, hc2, hm2⟩ := h2.shape
 unfold maxLen at hm1 hm2
 generalize x.kind = k at *
 generalize x.n = n at *
 generalize x.s = s at *
 generalize x.l = xs at *
 generalize x.o = xo at *
 have H1 := hid h1
 have H2 := hid h2
 have hb0 := Blk.new w TVAL #[U8 k, .int .i64 n, .string s, .slice A1 xs.length c1, .slice A2 xo.length c2]
 have hE : Ext w (w.alloc (.cells #[U8 k, .int .i64 n, .string s, .slice A1 xs.length c1, .slice A2 xo.length c2] TVAL)) := (Keep.refl _ _).alloc _
 have HB0 := hid hb0
 have HE := hid hE
 clear h1 h2 hb0 hE
 go_enter Tryd.func43, Tryd.ntmps43
 go_wp2_with fail
 generalize (w.alloc (.cells #[U8 k, .int .i64 n, .string s, .slice A1 xs.length c1, .slice A2 xo.length c2] TVAL)) = w0 at *
 go_loopw [3, 4] (fun a y wr => ∃ (j : Nat), j ≤ xs.length ∧ y = .int .i64 j ∧ a = .int .i64 (wrap64 (1 + s.size + V.weights (xs.take j))) ∧ Ext w0 wr) (fun _ y _ => xs.length - (intOf y).toNat)
 case atStart => exact ⟨0, by omega, rfl, by simp [V.weights], Keep.refl _ _⟩
 case round =>
  obtain ⟨j, hj, rfl, rfl, hr⟩ := hrel
  have hx := HB0.out.keep hr id
  have x3 : wr.cell? ⟨w.heap.size, 3, none⟩ = some (.slice A1 xs.length c1) := hx.cell 3
  have x4 : wr.cell? ⟨w.heap.size, 4, none⟩ = some (.slice A2 xo.length c2) := hx.cell 4
  have HR := hid (HE.out.ext hr)
  have HR0 := hid hr
  clear hx hr
  by_cases hlt : j < xs.length
  ·obtain ⟨b1, f1, d1, rfl, hb1, hs1, hr1, hc1'⟩ := (H1.out.ext EVal.ok HR.out).at_ EVal.ok hlt
   obtain ⟨B1, n1, z1, B2, n2, z2, rfl, _, _, hva⟩ := EVal_cells hr1
   have p0 := hc1' 0 _ rfl
   have p1 := hc1' 1 _ rfl
   have p2 := hc1' 2 _ rfl
   have p3 := hc1' 3 _ rfl
   have p4 := hc1' 4 _ rfl
   have e5' : EVal.size = 5 := rfl
   simp only [e5', Nat.add_zero] at p0 p1 p2 p3 p4
   have HVA := hid hva
   have HXM := hid (HLM.out xs[j] (List.getElem_mem hlt))
   have HNX := hid (show wrap64 (wrap64 (1 + s.size + V.weights (xs.take j)) + wrap64 xs[j].weight) = wrap64 (1 + s.size + V.weights (xs.take (j + 1))) from by rw [wrap_two, take_succ_get _ _ hlt, V.weights_append, V.weights_one]; congr 1; omega)
   have hjX : (j : Int) < xs.length := by omega
   clear hc1' hr1 hva e5' hs1 hb1
   generalize xs[j] = y at *
   skip
   skip
   go_wp2_with fail
   refine (HIH.out y HXM.out _ _ wr HVA.out).mono ?_
   rintro e w4 ⟨rfl, hE4⟩
   have HC4 := hid (HR0.out.ext hE4)
   clear hE4 x3 x4 p0 p1 p2 p3 p4 HVA
   go_wp2_with fail
   exact ⟨⟨j + 1, by omega, by go_num, by rw [HNX.out], HC4.out⟩, by simp [intOf]; omega⟩
  ·obtain rfl : j = xs.length := by omega
   rw [List.take_length]
   go_wp2_with fail
   clear x3 x4
   go_loopw [3, 5] (fun a y wr => ∃ (j : Nat), j ≤ xo.length ∧ y = .int .i64 j ∧ a = .int .i64 (wrap64 (1 + s.size + V.weights xs + F.weights (xo.take j))) ∧ Ext w0 wr) (fun _ y _ => xo.length - (intOf y).toNat)
   case atStart => exact ⟨0, by omega, rfl, by simp [F.weights, F.deeps], HR0.out⟩
   case round =>
    clear HR HR0
    obtain ⟨j, hj, rfl, rfl, hr⟩ := hrel
    have hx := HB0.out.keep hr id
    have x4 : wr.cell? ⟨w.heap.size, 4, none⟩ = some (.slice A2 xo.length c2) := hx.cell 4
    have HR := hid (HE.out.ext hr)
    have HR0 := hid hr
    clear hx hr
    by_cases hlt : j < xo.length
    ·obtain ⟨b1, f1, d1, rfl, hb1, hs1, hr1, hc1'⟩ := (H2.out.ext EField.ok HR.out).at_ EField.ok hlt
     obtain ⟨lv1, ov1, rfl, ⟨D1, g1, rfl⟩, ⟨D2, g2, rfl⟩, hva⟩ := EField_cells hr1
     have p0 := hc1' 0 _ rfl
     have p1 := hc1' 1 _ rfl
     have p2 := hc1' 2 _ rfl
     have p3 := hc1' 3 _ rfl
     have p4 := hc1' 4 _ rfl
     have p5 := hc1' 5 _ rfl
     have e5' : EField.size = 6 := rfl
     simp only [e5', Nat.add_zero] at p0 p1 p2 p3 p4 p5
     have HVA := hid hva
     have HXM := hid (HOM.out xo[j] (List.getElem_mem hlt))
     have HNX := hid (show wrap64 (wrap64 (1 + s.size + V.weights xs + F.weights (xo.take j)) + wrap64 (xo[j].key.size + wrap64 xo[j].v.weight)) = wrap64 (1 + s.size + V.weights xs + F.weights (xo.take (j + 1))) from by rw [wrap_add, take_succ_get _ _ hlt, F.weights_append, F.weights_one, F.weight_eq]; congr 1; omega)
     have hjX : (j : Int) < xo.length := by omega
     clear hc1' hr1 hva e5' hs1 hb1
     generalize xo[j] = y at *
     skip
     skip
     go_wp2_with fail
     refine wp_region_grow (specOf [(14, fun v _ => v = .int .i64 (wrap64 y.v.weight))]) (fun w' => Ext wr w') (stable_cons (fun v w w' h he => h) stable_nil) (stableC_ext _) (by kernel_rfl) (by kernel_rfl) (Keep.drew (Keep.refl _ _)) ?_
     iterate 14
      (try simp only [Act.put, sqa, sqb, sqc])
      refine grow_run rfl rfl rfl ?_
      apply Exists.intro
      refine ⟨fun w' hC hK => ?_, ?_⟩
      ·have x4 := sqw hC x4
       have p0 := sqw hC p0
       have p1 := sqw hC p1
       have p2 := sqw hC p2
       have p3 := sqw hC p3
       have p4 := sqw hC p4
       have p5 := sqw hC p5
       go_simp
       rfl
     (try simp only [Act.put, sqa, sqb, sqc])
     refine grow_eff rfl rfl rfl (fun w' hC hK => ?_) (fun v10 hv10 => ?_)
     ·unfold growAt
      go_simp
      refine grow_call ((HIH.out y.v HXM.out _ _ w' (HVA.out.ext hC)).mono ?_)
      rintro e w'' ⟨rfl, h1⟩
      exact ⟨_, rfl, h1, rfl⟩
     obtain ⟨_, _, rfl⟩ := hv10.head
     iterate 3
      (try simp only [Act.put, sqa, sqb, sqc])
      refine grow_run rfl rfl rfl ?_
      apply Exists.intro
      refine ⟨fun w' hC hK => ?_, ?_⟩
      ·go_simp
       rfl
     refine grow_nil fun w4 hC _ => ?_
     have HC4 := hid (HR0.out.ext (show Ext wr w4 from hC))
     clear hC hv10 x4 p0 p1 p2 p3 p4 p5 HVA
     go_wp2_with fail
     exact ⟨⟨j + 1, by omega, by go_num, by rw [HNX.out], HC4.out⟩, by simp [intOf]; omega⟩
    ·obtain rfl : j = xo.length := by omega
     rw [List.take_length, HRES.out]
     go_wp2_with fail
     go_ret
     exact ⟨rfl, HR.out⟩
theorem rdeep_any : ∀ (m : Nat) (x : V), x.size ≤ m → m ≤ 1000000 → ∀ (u : Value) (S1 : BS) (w : World), VAt w S1 u x →
  Calls Tryd.prog 42 #[u] w fun e w' => e = .returned (.int .i64 x.deep) ∧ Ext w w' := by
 intro m
 induction m with
 | zero => intro x h; have := x.size_pos; omega
 | succ m ih =>
 intro x hsz hmx u S1 w hu
 have hlen := V.size_eq x
 have HIH := hid ih
 have HLM := hid (fun (z : V) (hz : z ∈ x.l) => (by have := V.sizes_mem hz; omega : z.size ≤ m))
 have HOM := hid (fun (z : F) (hz : z ∈ x.o) => (by have := F.sizes_mem hz; omega : z.v.size ≤ m))
 have HMM := hid (show m ≤ 1000000 by omega)
 have HRES := hid (show ((max (V.deeps x.l) (F.deeps x.o) : Nat)) = x.deep from (V.deep_eq x).symm)
 obtain ⟨res, hres⟩ : ∃ r, x.deep = r := ⟨_, rfl⟩
 rw [hres] at HRES ⊢
 clear ih hlen hsz hres hmx
 obtain ⟨l1, o1, rfl, h1, h2⟩ := hu
 obtain ⟨A1, c1, rfl, hc1, hm1⟩ := h1.shape
 obtain ⟨A2, c2, rfl, hc2, hm2⟩ := h2.shape
 unfold maxLen at hm1 hm2
 generalize x.kind = k at *
 generalize x.n = n at *
 generalize x.s = s at *
 generalize x.l = xs at *
 generalize x.o = xo at *
 have H1 := hid h1
 have H2 := hid h2
 have hb0 := Blk.new w TVAL #[U8 k, .int .i64 n, .string s, .slice A1 xs.length c1, .slice A2 xo.length c2]
 have hE : Ext w (w.alloc (.cells #[U8 k, .int .i64 n, .string s, .slice A1 xs.length c1, .slice A2 xo.length c2] TVAL)) := (Keep.refl _ _).alloc _
 have HB0 := hid hb0
 have HE := hid hE
 clear h1 h2 hb0 hE
 go_enter Tryd.func42, Tryd.ntmps42
 go_wp2_with fail
 generalize (w.alloc (.cells #[U8 k, .int .i64 n, .string s, .slice A1 xs.length c1, .slice A2 xo.length c2] TVAL)) = w0 at *
 go_loopw [3, 4] (fun a y wr => ∃ (j : Nat), j ≤ xs.length ∧ y = .int .i64 j ∧ a = .int .i64 (V.deeps (xs.take j) : Int) ∧ Ext w0 wr) (fun _ y _ => xs.length - (intOf y).toNat)
 case atStart => exact ⟨0, by omega, rfl, by simp [V.deeps], Keep.refl _ _⟩
 case round =>
  obtain ⟨j, hj, rfl, rfl, hr⟩ := hrel
  have hx := HB0.out.keep hr id
  have x3 : wr.cell? ⟨w.heap.size, 3, none⟩ = some (.slice A1 xs.length c1) := hx.cell 3
  have x4 : wr.cell? ⟨w.heap.size, 4, none⟩ = some (.slice A2 xo.length c2) := hx.cell 4
  have HR := hid (HE.out.ext hr)
  have HR0 := hid hr
  clear hx hr
  by_cases hlt : j < xs.length
  ·obtain ⟨b1, f1, d1, rfl, hb1, hs1, hr1, hc1'⟩ := (H1.out.ext EVal.ok HR.out).at_ EVal.ok hlt
   obtain ⟨B1, n1, z1, B2, n2, z2, rfl, _, _, hva⟩ := EVal_cells hr1
   have p0 := hc1' 0 _ rfl
   have p1 := hc1' 1 _ rfl
   have p2 := hc1' 2 _ rfl
   have p3 := hc1' 3 _ rfl
   have p4 := hc1' 4 _ rfl
   have e5' : EVal.size = 5 := rfl
   simp only [e5', Nat.add_zero] at p0 p1 p2 p3 p4
   have HVA := hid hva
   have HXM := hid (HLM.out xs[j] (List.getElem_mem hlt))
   have HNX := hid (show V.deeps (xs.take (j + 1)) = max (V.deeps (xs.take j)) (xs[j].deep + 1) from by rw [take_succ_get _ _ hlt, V.deeps_append, V.deeps_one])
   have hjX : (j : Int) < xs.length := by omega
   clear hc1' hr1 hva e5' hs1 hb1
   generalize xs[j] = y at *
   have hdl := V.deep_lt y
   have hdn : (y.deep : Int) ≤ 1000000 := by have := HXM.out; have := HMM.out; omega
   generalize V.deeps (xs.take j) = dp at *
   go_wp2_with fail
   refine (HIH.out y HXM.out HMM.out _ _ wr HVA.out).mono ?_
   rintro e w4 ⟨rfl, hE4⟩
   have HC4 := hid (HR0.out.ext hE4)
   clear hE4 x3 x4 p0 p1 p2 p3 p4 HVA
   by_cases hmx : (dp : Int) < 1 + y.deep
   ·go_wp2_with fail
    exact ⟨⟨j + 1, by omega, by go_num, by have := HNX.out; congr 1; omega, HC4.out⟩, by simp [intOf]; omega⟩
   ·go_wp2_with fail
    exact ⟨⟨j + 1, by omega, by go_num, by have := HNX.out; congr 1; omega, HC4.out⟩, by simp [intOf]; omega⟩
  ·obtain rfl : j = xs.length := by omega
   rw [List.take_length]
   go_wp2_with fail
   clear x3 x4
   go_loopw [3, 5] (fun a y wr => ∃ (j : Nat), j ≤ xo.length ∧ y = .int .i64 j ∧ a = .int .i64 (max (V.deeps xs) (F.deeps (xo.take j)) : Nat) ∧ Ext w0 wr) (fun _ y _ => xo.length - (intOf y).toNat)
   case atStart => exact ⟨0, by omega, rfl, by simp [F.weights, F.deeps], HR0.out⟩
   case round =>
    clear HR HR0
    obtain ⟨j, hj, rfl, rfl, hr⟩ := hrel
    have hx := HB0.out.keep hr id
    have x4 : wr.cell? ⟨w.heap.size, 4, none⟩ = some (.slice A2 xo.length c2) := hx.cell 4
    have HR := hid (HE.out.ext hr)
    have HR0 := hid hr
    clear hx hr
    by_cases hlt : j < xo.length
    ·obtain ⟨b1, f1, d1, rfl, hb1, hs1, hr1, hc1'⟩ := (H2.out.ext EField.ok HR.out).at_ EField.ok hlt
     obtain ⟨lv1, ov1, rfl, ⟨D1, g1, rfl⟩, ⟨D2, g2, rfl⟩, hva⟩ := EField_cells hr1
     have p0 := hc1' 0 _ rfl
     have p1 := hc1' 1 _ rfl
     have p2 := hc1' 2 _ rfl
     have p3 := hc1' 3 _ rfl
     have p4 := hc1' 4 _ rfl
     have p5 := hc1' 5 _ rfl
     have e5' : EField.size = 6 := rfl
     simp only [e5', Nat.add_zero] at p0 p1 p2 p3 p4 p5
     have HVA := hid hva
     have HXM := hid (HOM.out xo[j] (List.getElem_mem hlt))
     have HNX := hid (show max (V.deeps xs) (F.deeps (xo.take (j + 1))) = max (max (V.deeps xs) (F.deeps (xo.take j))) (xo[j].v.deep + 1) from by rw [take_succ_get _ _ hlt, F.deeps_append, F.deeps_one, F.deep_eq]; omega)
     have hjX : (j : Int) < xo.length := by omega
     clear hc1' hr1 hva e5' hs1 hb1
     generalize xo[j] = y at *
     have hdl := V.deep_lt y.v
     have hdn : (y.v.deep : Int) ≤ 1000000 := by have := HXM.out; have := HMM.out; omega
     generalize max (V.deeps xs) (F.deeps (xo.take j)) = dp at *
     go_wp2_with fail
     refine (HIH.out y.v HXM.out HMM.out _ _ wr HVA.out).mono ?_
     rintro e w4 ⟨rfl, hE4⟩
     have HC4 := hid (HR0.out.ext hE4)
     clear hE4 x4 p0 p1 p2 p3 p4 p5 HVA
     by_cases hmx : (dp : Int) < 1 + y.v.deep
     ·go_wp2_with fail
      exact ⟨⟨j + 1, by omega, by go_num, by have := HNX.out; congr 1; omega, HC4.out⟩, by simp [intOf]; omega⟩
     ·go_wp2_with fail
      exact ⟨⟨j + 1, by omega, by go_num, by have := HNX.out; congr 1; omega, HC4.out⟩, by simp [intOf]; omega⟩
    ·obtain rfl : j = xo.length := by omega
     rw [List.take_length, HRES.out]
     go_wp2_with fail
     go_ret
     exact ⟨rfl, HR.out⟩
def badS (s : St) : Bool := if s.list then (!s.key.toList.isEmpty || decide (s.i < 0)) else (!decide (s.i = 0) || !Lib.validD s.key.data.toList)
def SmallS (s : St) : Prop := s.key.size ≤ 9223372036854775807
theorem key_nil {k : ByteArray} (h : k.toList = []) : k = ⟨#[]⟩ := key_eq (by rw [h, ByteArray.toList_eq])
theorem rsnd_ok (w0 w : World) (hv : ValAny w0) (h0 : Ext w0 w) (S : BS) (v : Value) (p : List St) (h : Sl ESt w S v p) (hs : ∀ s ∈ p, SmallS s) :
  Calls Tryd.prog 79 #[v] w fun e w' => e = .returned (.bool (decide (p.length ≤ 16) && !p.any badS)) ∧ Ext w w' := by
 obtain ⟨A, c, rfl, hlc, hcm⟩ := h.shape
 unfold maxLen at hcm
 have HA := hid h
 have HV := hid hv
 have H0 := hid h0
 have HS := hid hs
 generalize hn : p.length = n at *
 have HN := hid hn
 clear h hv h0 hs hn
 go_enter Tryd.func79, Tryd.ntmps79
 go_wp2
 go_loopw [3] (fun i wr => ∃ j : Nat, j ≤ n ∧ i = .int .i64 j ∧ (∀ i (hi : i < p.length), i < j → badS p[i] = false) ∧ Ext w wr) (fun i _ => n - (intOf i).toNat)
 case atStart => exact ⟨0, by omega, rfl, fun i _ h => by omega, Keep.refl _ _⟩
 case round =>
  obtain ⟨j, hj, rfl, hfl, hEj⟩ := hrel
  have HF := hid hfl
  have HEJ := hid hEj
  clear hfl hEj
  by_cases hlt : j < n
  ·have hjm : j < p.length := by rw [HN.out]; exact hlt
   obtain ⟨b1, o1, c0, rfl, _, _, hrd, hcell⟩ := (HA.out.ext ESt.ok HEJ.out).at_ ESt.ok hjm
   have HC := hid (HV.out _ (HS.out (p[j]'hjm) (List.getElem_mem hjm)) _ (H0.out.ext HEJ.out))
   have HMM := hid (show p[j]'hjm ∈ p from List.getElem_mem hjm)
   generalize hm : p[j]'hjm = m at *
   obtain rfl : c0 = [.bool m.list, .int .i64 m.i, .string m.key] := hrd
   have e0 := hcell 0 _ rfl
   have e1 := hcell 1 _ rfl
   have e2 := hcell 2 _ rfl
   have hz : ESt.size = 3 := rfl
   simp only [hz, Nat.add_zero] at e0 e1 e2
   have HM := hid hm
   clear hz hcell hm
   have HNX := hid (show badS m = false → ∀ i (hi : i < p.length), i < j + 1 → badS p[i] = false from fun hb i hi hij => by
    rcases Nat.lt_or_ge i j with h | h
    ·exact HF.out i hi h
    ·obtain rfl : i = j := by omega
     rw [HM.out]; exact hb)
   have HBA := hid (show badS m = true → (decide (n ≤ 16) && !p.any badS) = false from fun hb => by
    have : p.any badS = true := List.any_eq_true.2 ⟨m, HMM.out, hb⟩
    rw [this]; simp)
   clear HF HM HMM
   obtain ⟨l, i, k⟩ := m
   simp only at *
   cases l with
   | true =>
    by_cases hk : k.toList = []
    ·obtain rfl := key_nil hk
     have hk1 : ((⟨#[]⟩ : ByteArray).toList == (⟨#[]⟩ : ByteArray).toList) = true := by simp
     clear hk
     by_cases hi : i < 0
     ·have HB := hid (HBA.out (show badS ⟨true, i, ⟨#[]⟩⟩ = true from by simp [badS, hi]))
      go_wp2
      go_ret
      exact ⟨by rw [HB.out]; first | rfl | simp, HEJ.out⟩
     ·have HB := hid (HNX.out (show badS ⟨true, i, ⟨#[]⟩⟩ = false from by simp [badS, hi, ByteArray.toList_eq]))
      have hvd : Lib.validD (⟨#[]⟩ : ByteArray).data.toList = true := rfl
      rw [hvd] at HC
      clear hvd
      go_wp2_with fail
      refine HC.out.mono ?_
      rintro e w2 ⟨rfl, hE2⟩
      have HE2 := hid (HEJ.out.ext hE2)
      clear hE2 e0 e1 e2
      go_wp2
      go_roundw
      case rel => exact ⟨j + 1, by omega, by go_num, HB.out, HE2.out⟩
      case measure => simp [intOf]; omega
    ·have hk1 : (k.toList == (⟨#[]⟩ : ByteArray).toList) = false := by rw [ByteArray.toList_eq (bs := ⟨#[]⟩)]; simpa using hk
     have HB := hid (HBA.out (show badS ⟨true, i, k⟩ = true from by simp [badS]; exact .inl (by simpa using hk)))
     go_wp2
     go_ret
     exact ⟨by rw [HB.out]; first | rfl | simp, HEJ.out⟩
   | false =>
    by_cases hi : i = 0
    ·subst hi
     cases hr : Lib.validD k.data.toList with
     | true =>
      have HB := hid (HNX.out (show badS ⟨false, 0, k⟩ = false from by simp [badS, hr]))
      rw [hr] at HC
      clear hr
      go_wp2_with fail
      refine HC.out.mono ?_
      rintro e w2 ⟨rfl, hE2⟩
      have HE2 := hid (HEJ.out.ext hE2)
      clear hE2 e0 e1 e2
      go_wp2
      go_roundw
      case rel => exact ⟨j + 1, by omega, by go_num, HB.out, HE2.out⟩
      case measure => simp [intOf]; omega
     | false =>
      have HB := hid (HBA.out (show badS ⟨false, 0, k⟩ = true from by simp [badS, hr]))
      rw [hr] at HC
      clear hr
      go_wp2_with fail
      refine HC.out.mono ?_
      rintro e w2 ⟨rfl, hE2⟩
      have HE2 := hid (HEJ.out.ext hE2)
      clear hE2 e0 e1 e2
      go_wp2
      go_ret
      exact ⟨by rw [HB.out]; first | rfl | simp, HE2.out⟩
    ·have hiX : (i != 0) = true := by simpa using hi
     have HB := hid (HBA.out (show badS ⟨false, i, k⟩ = true from by simp [badS, hi]))
     clear hi
     go_wp2
     go_ret
     exact ⟨by rw [HB.out]; first | rfl | simp, HEJ.out⟩
  ·obtain rfl : j = n := by omega
   have hany : p.any badS = false := by
    rw [List.any_eq_false]
    intro s hs
    obtain ⟨i, hi, rfl⟩ := List.getElem_of_mem hs
    have := HF.out i hi (by have := HN.out; omega)
    simp [this]
   have HAN := hid hany
   clear hany HF
   by_cases hj16 : j ≤ 16
   ·have hX : (j : Int) ≤ 16 := by omega
    have HD := hid (show decide (j ≤ 16) = true from by simpa using hj16)
    clear hj16
    go_wp2
    go_ret
    exact ⟨by rw [HD.out, HAN.out]; rfl, HEJ.out⟩
   ·have hX : ¬ (j : Int) ≤ 16 := by omega
    have HD := hid (show decide (j ≤ 16) = false from by simpa using hj16)
    clear hj16
    go_wp2
    go_ret
    exact ⟨by rw [HD.out]; first | rfl | simp, HEJ.out⟩
def saysN (k : Nat) : List UInt8 :=
 if k = 1 then [78] else if k = 2 then [75, 86] else if k = 3 then [75] else if k = 4 ∨ k = 6 then [73, 86] else if k = 5 then [73] else if k = 7 then [73, 74] else if k = 8 then [73, 83] else if k = 9 then [73, 78] else []
theorem says_ok (w : World) (k : UInt8) (hk : 1 ≤ k.toNat ∧ k.toNat ≤ 9) : Calls Tryd.prog 78 #[U8 k] w fun e w' => e = .returned (.string (textOf (saysN k.toNat))) ∧ w = w' := by
 obtain ⟨q, hq⟩ : ∃ q, k.toNat = q := ⟨_, rfl⟩
 rw [hq] at hk ⊢
 have hc : q = 1 ∨ q = 2 ∨ q = 3 ∨ q = 4 ∨ q = 5 ∨ q = 6 ∨ q = 7 ∨ q = 8 ∨ q = 9 := by omega
 rw [show U8 k = .int .u8 (q : Int) from by rw [← hq]]
 clear hq hk
 rcases hc with rfl | rfl | rfl | rfl | rfl | rfl | rfl | rfl | rfl
 all_goals
  go_enter Tryd.func78, Tryd.ntmps78
  go_wp2
  go_ret
  exact ⟨rfl, rfl⟩
def hasC (s : ByteArray) (c : UInt8) : Bool := s.data.toList.contains c
theorem in6_ok (w : World) (s : ByteArray) (c : UInt8) (hs : s.size ≤ 1000) : Calls Tryd.prog 80 #[.string s, U8 c] w fun e w' => e = .returned (.bool (hasC s c)) ∧ w = w' := by
 have hl3 : s.data.toList.length = s.size := Array.length_toList
 have HL3 := hid hl3
 clear hl3
 go_enter Tryd.func80, Tryd.ntmps80
 go_wp2_with fail
 go_loopw [5] (fun i wr => ∃ j : Nat, j ≤ s.size ∧ i = .int .i64 j ∧ hasC ⟨(s.data.toList.take j).toArray⟩ c = false ∧ wr = w) (fun i _ => s.size - (intOf i).toNat)
 case atStart => exact ⟨0, by omega, rfl, rfl, rfl⟩
 case round =>
  obtain ⟨j, hj, rfl, hs2, rfl⟩ := hrel
  have HS := hid hs2
  clear hs2
  by_cases h1 : j < s.size
  ·have h1X : (j : Int) < s.size := by omega
   have hnext : s.data.toList.take (j + 1) = s.data.toList.take j ++ [s[j]] := by
    rw [List.take_succ_eq_append_getElem (by rw [HL3.out]; exact h1)]
    rfl
   have hmem : s[j] ∈ s.data.toList := by
    have : s[j] = s.data.toList[j]'(by rw [HL3.out]; exact h1) := rfl
    rw [this]; exact List.getElem_mem _
   have HX := hid hnext
   have HM := hid hmem
   clear hnext hmem
   by_cases h2 : s[j] = c
   ·have h2X : ((s[j].toNat : Int) == (c.toNat : Int)) = true := by rw [h2]; simp
    have H2 := hid h2
    clear h2
    go_wp2
    go_ret
    exact ⟨by rw [show hasC s c = true from by unfold hasC; rw [List.contains_iff_mem]; rw [← H2.out]; exact HM.out]; rfl, rfl⟩
   ·have h2X : ((s[j].toNat : Int) == (c.toNat : Int)) = false := by
     have : s[j].toNat ≠ c.toNat := fun h => h2 (UInt8.toNat_inj.1 h)
     simp; omega
    have H2 := hid h2
    clear h2
    go_wp2
    exact ⟨⟨j + 1, by omega, by go_num, by have := HS.out; unfold hasC at this ⊢; rw [HX.out]; simp at this ⊢; exact ⟨this, fun e => H2.out e.symm⟩, by first | trivial | rfl⟩, by simp [intOf]; omega⟩
  ·obtain rfl : j = s.size := by omega
   have h1X : ¬ ((s.size : Int) < s.size) := by omega
   go_wp2
   go_ret
   exact ⟨by have := HS.out; rw [List.take_of_length_le (by rw [HL3.out]; exact Nat.le_refl _)] at this; rw [show hasC s c = false from this]; rfl, rfl⟩
structure Snd6 (c : Cp) : Prop where
 kind : 1 ≤ c.kind.toNat ∧ c.kind.toNat ≤ 9
 path : c.path.length ≤ 16 ∧ c.path.any badS = false
 K : (saysN c.kind.toNat).contains 75 = true ∨ c.key = ⟨#[]⟩
 I : (saysN c.kind.toNat).contains 73 = true ∨ c.i = 0
 J : (saysN c.kind.toNat).contains 74 = true ∨ c.j = 0
 N : (saysN c.kind.toNat).contains 78 = true ∨ c.n = 0
 S : (saysN c.kind.toNat).contains 83 = true ∨ c.s = ⟨#[]⟩
 V : (saysN c.kind.toNat).contains 86 = true ∨ c.v = .mk 0 0 ⟨#[]⟩ [] []
 vkey : Lib.validD c.key.data.toList = true
 vs : Lib.validD c.s.data.toList = true
 i0 : 0 ≤ c.i
 j0 : 0 ≤ c.j
 tins : c.kind.toNat = 8 → c.s.data.toList.isEmpty = false
 tdel : c.kind.toNat = 9 → 1 ≤ c.n
 snd : c.v.snd = true
 deep : c.path.length + 1 + c.v.deep ≤ 16
 weight : c.v.weight ≤ 20000
 big : VStr BigR c.v
 size : c.v.size ≤ 1000000
 zk : c.key.size ≤ 1000000
 zs : c.s.size ≤ 1000000
 pk : ∀ s ∈ c.path, SmallS s
end Go.Proofs.YtggkidnlmaindaaDoor
