/- EncC: laid together. -/
import Derived.Test.YtggkidnlmaindaaDoorPxB36
import Derived.Test.YtggkidnlmaindaaDoorPxB15
import Derived.Test.YtggkidnlmaindaaDoorPxB16
set_option linter.unusedSimpArgs false
set_option linter.unusedVariables false
set_option maxHeartbeats 25600000
set_option maxRecDepth 20000
namespace Go.Proofs.YtggkidnlmaindaaDoor
open Go.RowKit
theorem Wide.wrap {v : V} (h : Wide v) : wrap64 v.weight = (v.weight : Int) := by have := h.weight; unfold wrap64; omega
set_option maxRecDepth 100000 in
theorem rlight_ok (w0 : World) (hva : ValAny w0) (v : V) (hw : Wide v) (u : Value) (S : BS) (w : World) (h0 : Ext w0 w) (hu : VAt w S u v) :
  Calls Tryd.prog 59 #[u] w fun e w' => e = .returned (.bool (lightB v)) ∧ Ext w w' := by
 have HVA := hid hva
 have HWI := hid hw
 have H0 := hid h0
 have hdl : (v.deep : Int) ≤ 1000000 := by have := V.deep_lt v; have := hw.size; omega
 obtain ⟨l1, o1, rfl, h1, h2⟩ := hu
 obtain ⟨A1, c1, rfl, _⟩ := h1.shape
 obtain ⟨A2, c2, rfl, _⟩ := h2.shape
 have hE : Ext w (w.alloc (.cells (vC v A1 c1 A2 c2) TVAL)) := (Keep.refl _ _).alloc _
 have HE := hid hE
 have HB := hid (Blk.new w TVAL (vC v A1 c1 A2 c2))
 have HV := hid (show VAt (w.alloc (.cells (vC v A1 c1 A2 c2) TVAL)) S (.agg (vC v A1 c1 A2 c2)) v from ⟨_, _, rfl, h1.ext EVal.ok hE, h2.ext EField.ok hE⟩)
 have HLB := hid (show lightB v = (v.snd && (decide ((v.deep : Int) ≤ 16) && decide (wrap64 v.weight ≤ 20000))) from by
  unfold lightB; rw [hw.wrap]
  congr 2 <;> exact decide_eq_decide.2 (by omega))
 rw [HLB.out]
 clear hva hw h0 h1 h2 hE HLB
 go_enter Tryd.func59, Tryd.ntmps59
 go_wp2_with fail
 generalize (w.alloc (.cells (vC v A1 c1 A2 c2) TVAL)) = W0 at *
 refine (rsound_any w0 HVA.out 1000000 v HWI.out.size HWI.out.str _ S W0 (H0.out.ext HE.out) HV.out).mono ?_
 rintro e w1 ⟨rfl, h1⟩
 have HV1 := hid (HV.out.ext h1)
 have HE1 := hid (HE.out.ext h1)
 have HB1 := hid (HB.out.keep h1 id)
 clear h1
 obtain ⟨q0, q1, q2, q3, q4⟩ := blk5 HB1.out
 obtain ⟨sb, hsb⟩ : ∃ sb, v.snd = sb := ⟨_, rfl⟩
 have HSB := hid hsb
 rw [hsb]
 clear hsb
 cases sb with
 | false =>
  go_wp2
  go_ret
  exact ⟨by rw [HSB.out]; rfl, HE1.out⟩
 | true =>
  go_wp2_with fail
  refine (rdeep_any 1000000 v HWI.out.size (Nat.le_refl _) _ S w1 HV1.out).mono ?_
  rintro e w2 ⟨rfl, h2⟩
  have HV2 := hid (HV1.out.ext h2)
  have HE2 := hid (HE1.out.ext h2)
  have HB2 := hid (HB1.out.keep h2 id)
  clear h2 q0 q1 q2 q3 q4
  obtain ⟨q0, q1, q2, q3, q4⟩ := blk5 HB2.out
  by_cases hd : (v.deep : Int) ≤ 16
  ·go_wp2_with fail
   refine (rweight_any 1000000 v HWI.out.size _ S w2 HV2.out).mono ?_
   rintro e w3 ⟨rfl, h3⟩
   have HE3 := hid (HE2.out.ext h3)
   have hdt : decide ((v.deep : Int) ≤ 16) = true := by simp [hd]
   clear h3 q0 q1 q2 q3 q4
   go_wp2
   go_ret
   exact ⟨by rw [HSB.out, hdt]; simp, HE3.out⟩
  ·have hdt : decide ((v.deep : Int) ≤ 16) = false := by simp; omega
   go_wp2
   go_ret
   exact ⟨by rw [HSB.out, hdt]; simp, HE2.out⟩
def ValBIs (W1 : World) (v : V) (e : Ending) (w' : World) : Prop := ∃ u, e = .returned (.tuple #[u, .int .i64 (valC v)]) ∧ Own EU8 w' W1.heap.size TU8 (fun _ => False) u (valB v) ∧ Ext W1 w'
set_option maxRecDepth 100000 in
theorem rval10_ok (w0 : World) (hva : ValAny w0) (v : V) (hw : Wide v) (u : Value) (S : BS) (w : World) (h0 : Ext w0 w) (hu : VAt w S u v) :
  Calls Tryd.prog 61 #[u] w (ValBIs w v) := by
 have HVA := hid hva
 have HWI := hid hw
 have H0 := hid h0
 have hu := hu.more (S' := fun k => k < w.heap.size) fun k h _ => h
 obtain ⟨l1, o1, rfl, h1, h2⟩ := hu
 obtain ⟨A1, c1, rfl, _⟩ := h1.shape
 obtain ⟨A2, c2, rfl, _⟩ := h2.shape
 have hE : Ext w (w.alloc (.cells (vC v A1 c1 A2 c2) TVAL)) := (Keep.refl _ _).alloc _
 have HE := hid hE
 have HSZ := hid (show (w.alloc (.cells (vC v A1 c1 A2 c2) TVAL)).heap.size = w.heap.size + 1 by simp)
 have HB := hid (Blk.new w TVAL (vC v A1 c1 A2 c2))
 have HV := hid (show VAt (w.alloc (.cells (vC v A1 c1 A2 c2) TVAL)) (fun k => k < w.heap.size) (.agg (vC v A1 c1 A2 c2)) v from ⟨_, _, rfl, h1.ext EVal.ok hE, h2.ext EField.ok hE⟩)
 clear hva hw h0 h1 h2 hE
 go_enter Tryd.func61, Tryd.ntmps61
 go_wp2_with fail
 generalize (w.alloc (.cells (vC v A1 c1 A2 c2) TVAL)) = W0 at *
 refine (rlight_ok w0 HVA.out v HWI.out _ _ W0 (H0.out.ext HE.out) HV.out).mono ?_
 rintro e w1 ⟨rfl, h1⟩
 have HV1 := hid (HV.out.ext h1)
 have HE1 := hid (HE.out.ext h1)
 have HB1 := hid (HB.out.keep h1 id)
 have HSZ1 := hid (show w.heap.size < w1.heap.size from by have := h1.size; have := HSZ.out; omega)
 clear h1
 obtain ⟨lb, hlb⟩ : ∃ lb, lightB v = lb := ⟨_, rfl⟩
 have HLB := hid hlb
 rw [hlb]
 clear hlb
 cases lb with
 | false =>
  have hC : valC v = 1 := by unfold valC; rw [HLB.out]; rfl
  have hB : valB v = [] := by unfold valB; rw [hC]; rfl
  have HF := hid (show ValBIs w v (.returned (.tuple #[.slice none 0 0, .int .i64 1])) w1 from ⟨_, by rw [hC], by rw [hB]; exact Own.nil _ _ _ _, HE1.out⟩)
  clear hC hB
  go_wp2
  go_ret2
  exact HF.out
 | true =>
  obtain ⟨q0, q1, q2, q3, q4⟩ := blk5 HB1.out
  have HLEN := hid (show (encV v).length ≤ 260000 from by have := light_weight HLB.out; have := encV_le13 v; omega)
  have hE2 : Ext w1 (w1.alloc (.cells #[.slice none 0 0] TWR)) := (Keep.refl _ _).alloc _
  have HV2 := hid (HV1.out.ext hE2)
  have HE2 := hid (HE1.out.ext hE2)
  have HZ2 := hid (show (w1.alloc (.cells #[.slice none 0 0] TWR)).heap.size = w1.heap.size + 1 by simp)
  have HWR := hid (show WrAt TWR (w1.alloc (.cells #[.slice none 0 0] TWR)) (w1.alloc (.cells #[.slice none 0 0] TWR)) w1.heap.size none [] from ⟨_, Blk.new _ _ _, Own.nil _ _ _ _, rfl, by simp, Keep.refl _ _⟩)
  have HB2 := hid (HB1.out.keep hE2 id)
  clear hE2 q0 q1 q2 q3 q4
  obtain ⟨q0, q1, q2, q3, q4⟩ := blk5 HB2.out
  go_wp2_with fail
  generalize (w1.alloc (.cells #[.slice none 0 0] TWR)) = w2 at *
  refine (rvalue_any 1000000 v HWI.out.size w2 w2 w1.heap.size none [] _ _ HWR.out HV2.out (fun k hk => by have := HSZ1.out; have := HZ2.out; omega) (by have := HLEN.out; simp; omega)).mono ?_
  rintro e w3 ⟨rfl, o3, ⟨X, hb, hown, _, hlt, hk⟩, _⟩
  rw [List.nil_append] at hown
  obtain ⟨A, c, rfl, hlc, hcm⟩ := hown.shape
  have x0 := hb.cell 0
  simp only [List.getElem?_toArray, List.getElem?_cons_zero] at x0
  have HO := hid hown
  have HK := hid (show Ext w w3 from HE2.out.trans hk fun k h1 h2 => by have := HSZ1.out; omega)
  have HEL := hid (rfl : (encV v).length = (encV v).length)
  obtain ⟨n, hn⟩ : ∃ n, (encV v).length = n := ⟨_, rfl⟩
  have HN := hid hn
  rw [hn] at x0 HO
  clear hb hown hk hlt q0 q1 q2 q3 q4 hn hlc
  by_cases hg : (60000 : Int) < n
  ·have hC : valC v = 3 := by unfold valC; rw [HLB.out, if_pos rfl, if_pos (by have := HN.out; omega)]
   have hB : valB v = [] := by unfold valB; rw [hC]; rfl
   have HF := hid (show ValBIs w v (.returned (.tuple #[.slice none 0 0, .int .i64 3])) w3 from ⟨_, by rw [hC], by rw [hB]; exact Own.nil _ _ _ _, HK.out⟩)
   clear hC hB
   go_wp2
   go_ret2
   exact HF.out
  ·have hC : valC v = 0 := by unfold valC; rw [HLB.out, if_pos rfl, if_neg (by have := HN.out; omega)]
   have hB : valB v = encV v := by unfold valB; rw [hC]; rfl
   have HF := hid (show ValBIs w v (.returned (.tuple #[.slice A n c, .int .i64 0])) w3 from ⟨_, by rw [hC], by rw [hB]; exact HO.out.less (by have := HSZ1.out; have := HZ2.out; omega), HK.out⟩)
   clear hC hB
   go_wp2
   go_ret2
   exact HF.out
set_option maxRecDepth 100000 in
theorem rbig_ok (w0 : World) (hva : ValAny w0) (v : V) (hw : Wide v) (u : Value) (S : BS) (w : World) (h0 : Ext w0 w) (hu : VAt w S u v) :
  Calls Tryd.prog 40 #[u] w fun e w' => e = .returned (.bool (bigB v)) ∧ Ext w w' := by
 have HVA := hid hva
 have HWI := hid hw
 have H0 := hid h0
 obtain ⟨l1, o1, rfl, h1, h2⟩ := hu
 obtain ⟨A1, c1, rfl, _⟩ := h1.shape
 obtain ⟨A2, c2, rfl, _⟩ := h2.shape
 have hE : Ext w (w.alloc (.cells (vC v A1 c1 A2 c2) TVAL)) := (Keep.refl _ _).alloc _
 have HE := hid hE
 have HV := hid (show VAt (w.alloc (.cells (vC v A1 c1 A2 c2) TVAL)) S (.agg (vC v A1 c1 A2 c2)) v from ⟨_, _, rfl, h1.ext EVal.ok hE, h2.ext EField.ok hE⟩)
 clear hva hw h0 h1 h2 hE
 go_enter Tryd.func40, Tryd.ntmps40
 go_wp2_with fail
 generalize (w.alloc (.cells (vC v A1 c1 A2 c2) TVAL)) = W0 at *
 refine (rval10_ok w0 HVA.out v HWI.out _ _ W0 (H0.out.ext HE.out) HV.out).mono ?_
 rintro e w1 ⟨u', rfl, hown, h1⟩
 have HE1 := hid (HE.out.ext h1)
 obtain ⟨A, c, rfl, hlc, hcm⟩ := hown.shape
 obtain ⟨C, hC⟩ : ∃ C, valC v = C := ⟨_, rfl⟩
 obtain ⟨n, hn⟩ : ∃ n, (valB v).length = n := ⟨_, rfl⟩
 have HR := hid (show bigB v = (decide (C = 3) || decide (59000 < n)) from by unfold bigB; rw [hC, hn])
 rw [hC, hn]
 clear hown h1 hlc hC hn
 by_cases h3 : C = 3
 ·subst h3
  go_wp2
  go_ret
  exact ⟨by rw [HR.out]; simp, HE1.out⟩
 ·have hb : (C == 3) = false := by simp [h3]
  go_wp2
  go_ret
  exact ⟨by rw [HR.out]; simp [h3]; omega, HE1.out⟩
end Go.Proofs.YtggkidnlmaindaaDoor
