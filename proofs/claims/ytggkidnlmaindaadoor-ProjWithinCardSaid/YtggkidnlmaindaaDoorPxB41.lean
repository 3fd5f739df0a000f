/- Fold: laid together. -/
import Derived.Test.YtggkidnlmaindaaDoorPxB40
import Derived.Test.YtggkidnlmaindaaDoorPxB17
set_option linter.unusedSimpArgs false
set_option linter.unusedVariables false
set_option maxHeartbeats 25600000
set_option maxRecDepth 20000
namespace Go.Proofs.YtggkidnlmaindaaDoor
open Go.RowKit
def zeroV : V := .mk 0 0 ⟨#[]⟩ [] []
abbrev entV (k : Int) (c1 c2 : Int) (Az : Option Addr) (cz : Nat) (Bz : Option Addr) (dz : Nat) (ov : Value) : Value := .agg #[.int .u8 k, .int .u32 c1, .int .u32 c2, .int .u8 0, .int .i64 0, .string ⟨#[]⟩, .slice Az 0 cz, .slice Bz 0 dz, ov]
abbrev ZAt (w : World) (S : BS) (Az : Option Addr) (cz : Nat) (Bz : Option Addr) (dz : Nat) : Prop := VAt w S (.agg #[.int .u8 0, .int .i64 0, .string ⟨#[]⟩, .slice Az 0 cz, .slice Bz 0 dz]) zeroV
theorem zeroV_at (w : World) (S : BS) : VAt w S (.agg #[.int .u8 0, .int .i64 0, .string ⟨#[]⟩, .slice none 0 0, .slice none 0 0]) zeroV := ⟨_, _, rfl, Sl.nil _ _, Sl.nil _ _⟩
theorem rsound10_edit (w0 : World) (hva : ValAny w0) (w : World) (hw : Ext w0 w) (S : BS) (c1 c2 : Int) (Az : Option Addr) (cz : Nat) (Bz : Option Addr) (dz : Nat) (S3 : BS) (hz : ZAt w S3 Az cz Bz dz) (ov : Value) (cs : List Cp) (ho : Sl ECp w S ov cs) (hn : cs.length ≤ 200) (hs : ∀ c ∈ cs, Snd6 c) :
  Calls Tryd.prog 39 #[entV 2 c1 c2 Az cz Bz dz ov] w fun e w' => e = .returned (.bool true) ∧ Ext w w' := by
 obtain ⟨A, c, rfl, hlc, hcm⟩ := ho.shape
 unfold maxLen at hcm
 have hE : Ext w (w.alloc (.cells #[.int .u8 2, .int .u32 c1, .int .u32 c2, .int .u8 0, .int .i64 0, .string ⟨#[]⟩, .slice Az 0 cz, .slice Bz 0 dz, .slice A cs.length c] TENT)) := (Keep.refl _ _).alloc _
 have HE := hid hE
 have HB := hid (Blk.new w TENT #[.int .u8 2, .int .u32 c1, .int .u32 c2, .int .u8 0, .int .i64 0, .string ⟨#[]⟩, .slice Az 0 cz, .slice Bz 0 dz, .slice A cs.length c])
 have HO := hid (ho.ext ECp.ok hE)
 have HW := hid (hw.ext hE)
 have HVA := hid hva
 have HS := hid hs
 have HZZ := hid (hz.ext hE)
 obtain ⟨n, hnn⟩ : ∃ n, cs.length = n := ⟨_, rfl⟩
 have HN := hid hnn
 rw [hnn] at HO HB hlc hn HE HW HZZ ⊢
 have hnX : (n : Int) ≤ 200 := by omega
 clear hE ho hw hva hs hnn hz
 go_enter Tryd.func39, Tryd.ntmps39
 go_wp2_with fail
 generalize (w.alloc (.cells #[.int .u8 2, .int .u32 c1, .int .u32 c2, .int .u8 0, .int .i64 0, .string ⟨#[]⟩, .slice Az 0 cz, .slice Bz 0 dz, .slice A n c] TENT)) = W at *
 refine (rsame_any 1000000 zeroV zeroV (by decide) true (by simp) _ _ _ (fun _ => True) W HZZ.out (zeroV_at _ _)).mono ?_
 rintro e w1 ⟨rfl, hE1⟩
 have HB1 := hid (HB.out.keep hE1 id)
 have HE1 := hid hE1
 obtain ⟨x0, x1, x2, x3, x4, x5, x6, x7, x8⟩ := blk9 HB1.out
 clear hE1
 go_wp2_with fail
 clear x0 x1 x2 x3 x4 x5 x6 x7 x8
 go_loopw [4, 5] (fun i _ wr => ∃ j : Nat, i = .int .i64 j ∧ j ≤ n ∧ Ext W wr) (fun i _ _ => n - (intOf i).toNat)
 case atStart => exact ⟨0, rfl, by omega, HE1.out⟩
 case round =>
  obtain ⟨j, rfl, hj, hr⟩ := hrel
  have HR := hid hr
  have HBr := hid (HB.out.keep hr id)
  obtain ⟨x0, x1, x2, x3, x4, x5, x6, x7, x8⟩ := blk9 HBr.out
  by_cases hlt : j < n
  ·have hltX : (j : Int) < n := by omega
   have hj' : j < cs.length := by rw [HN.out]; exact hlt
   obtain ⟨bp, op, c0, rfl, _, _, ⟨pva, vva, ova, rfl, p1, p2, p3⟩, hcell⟩ := (HO.out.ext ECp.ok hr).at_ ECp.ok hj'
   have HSJ := hid (HS.out _ (List.getElem_mem hj'))
   generalize cs[j] = d at *
   obtain ⟨Ap, cp, rfl, _⟩ := p1.shape
   obtain ⟨Aq, cq, rfl, _⟩ := p2.shape
   obtain ⟨Ar, cr, rfl, _⟩ := p3.shape
   have HCC := hid (show CAt wr S (.agg (cC d Ap cp Aq cq Ar cr)) d from ⟨_, _, _, rfl, p1, p2, p3⟩)
   have e12 : ECp.size = 12 := rfl
   have g0 := hcell 0 _ rfl
   have g1 := hcell 1 _ rfl
   have g2 := hcell 2 _ rfl
   have g3 := hcell 3 _ rfl
   have g4 := hcell 4 _ rfl
   have g5 := hcell 5 _ rfl
   have g6 := hcell 6 _ rfl
   have g7 := hcell 7 _ rfl
   have g8 := hcell 8 _ rfl
   have g9 := hcell 9 _ rfl
   have g10 := hcell 10 _ rfl
   have g11 := hcell 11 _ rfl
   simp only [e12, Nat.add_zero] at g0 g1 g2 g3 g4 g5 g6 g7 g8 g9 g10 g11
   clear hcell p1 p2 p3 e12 hr hj'
   go_wp2_with fail
   refine (rsound6_ok w0 HVA.out wr (HW.out.ext HR.out) _ _ d HCC.out HSJ.out).mono ?_
   rintro e w4 ⟨rfl, hE4⟩
   have HR4 := hid (HR.out.ext hE4)
   clear hE4 g0 g1 g2 g3 g4 g5 g6 g7 g8 g9 g10 g11 x0 x1 x2 x3 x4 x5 x6 x7 x8
   go_wp2_with fail
   exact ⟨⟨j + 1, by go_num, by omega, HR4.out⟩, by simp [intOf]; omega⟩
  ·obtain rfl : j = n := by omega
   have hltX : ¬ (j : Int) < j := by omega
   clear hr
   go_wp2
   go_ret
   exact ⟨rfl, HE.out.ext HR.out⟩
theorem rsound10_gone (w : World) (c1 c2 : Int) (Az : Option Addr) (cz : Nat) (Bz : Option Addr) (dz : Nat) (S3 : BS) (hz : ZAt w S3 Az cz Bz dz) : Calls Tryd.prog 39 #[entV 3 c1 c2 Az cz Bz dz (.slice none 0 0)] w fun e w' => e = .returned (.bool true) ∧ Ext w w' := by
 have hE : Ext w (w.alloc (.cells #[.int .u8 3, .int .u32 c1, .int .u32 c2, .int .u8 0, .int .i64 0, .string ⟨#[]⟩, .slice Az 0 cz, .slice Bz 0 dz, .slice none 0 0] TENT)) := (Keep.refl _ _).alloc _
 have HE := hid hE
 have HB := hid (Blk.new w TENT #[.int .u8 3, .int .u32 c1, .int .u32 c2, .int .u8 0, .int .i64 0, .string ⟨#[]⟩, .slice Az 0 cz, .slice Bz 0 dz, .slice none 0 0])
 have HZZ := hid (hz.ext hE)
 clear hE hz
 go_enter Tryd.func39, Tryd.ntmps39
 go_wp2_with fail
 generalize (w.alloc (.cells #[.int .u8 3, .int .u32 c1, .int .u32 c2, .int .u8 0, .int .i64 0, .string ⟨#[]⟩, .slice Az 0 cz, .slice Bz 0 dz, .slice none 0 0] TENT)) = W at *
 refine (rsame_any 1000000 zeroV zeroV (by decide) true (by simp) _ _ _ (fun _ => True) W HZZ.out (zeroV_at _ _)).mono ?_
 rintro e w1 ⟨rfl, hE1⟩
 have HB1 := hid (HB.out.keep hE1 id)
 have HE1 := hid (HE.out.ext hE1)
 obtain ⟨x0, x1, x2, x3, x4, x5, x6, x7, x8⟩ := blk9 HB1.out
 clear hE1
 go_wp2
 go_ret
 exact ⟨rfl, HE1.out⟩
def FoldTo (w : World) (z : V) (e : Ending) (w' : World) : Prop := Ext w w' ∧
 ((foldBad z = true ∧ e = .returned (.tuple #[.agg #[.int .u8 0, .int .i64 0, .string ⟨#[]⟩, .slice none 0 0, .slice none 0 0], .bool false, .int .i64 3])) ∨
  (foldBad z = false ∧ ∃ u, e = .returned (.tuple #[u, .bool true, .int .i64 0]) ∧ VIs w' (fun q => w.heap.size ≤ q) u z))
theorem fold_gone (w : World) (S : BS) (u : Value) (v : V) (c1 c2 : Int) (Az : Option Addr) (cz : Nat) (Bz : Option Addr) (dz : Nat) (S3 : BS) (hz : ZAt w S3 Az cz Bz dz) (hv : VAt w S u v) :
  Calls Tryd.prog 20 #[u, .bool true, entV 3 c1 c2 Az cz Bz dz (.slice none 0 0)] w fun e w' => e = .returned (.tuple #[.agg #[.int .u8 0, .int .i64 0, .string ⟨#[]⟩, .slice none 0 0, .slice none 0 0], .bool false, .int .i64 0]) ∧ Ext w w' := by
 obtain ⟨l1, o1, rfl, q1, q2⟩ := hv
 obtain ⟨B1, d1, rfl, _⟩ := q1.shape
 obtain ⟨B2, d2, rfl, _⟩ := q2.shape
 obtain ⟨W, hW⟩ : ∃ W, ((w.alloc (.cells (vC v B1 d1 B2 d2) TVAL)).alloc (.cells #[.int .u8 3, .int .u32 c1, .int .u32 c2, .int .u8 0, .int .i64 0, .string ⟨#[]⟩, .slice Az 0 cz, .slice Bz 0 dz, .slice none 0 0] TENT)).alloc (.cells #[.int .u8 0, .int .i64 0, .string ⟨#[]⟩, .slice none 0 0, .slice none 0 0] TVAL) = W := ⟨_, rfl⟩
 have hE : Ext w W := by rw [← hW]; exact (((Keep.refl _ _).alloc _).alloc _).alloc _
 have hb1 : Blk W (w.heap.size + 1) TENT #[.int .u8 3, .int .u32 c1, .int .u32 c2, .int .u8 0, .int .i64 0, .string ⟨#[]⟩, .slice Az 0 cz, .slice Bz 0 dz, .slice none 0 0] := by
  have := (Blk.new (w.alloc (.cells (vC v B1 d1 B2 d2) TVAL)) TENT #[.int .u8 3, .int .u32 c1, .int .u32 c2, .int .u8 0, .int .i64 0, .string ⟨#[]⟩, .slice Az 0 cz, .slice Bz 0 dz, .slice none 0 0]).alloc (.cells #[.int .u8 0, .int .i64 0, .string ⟨#[]⟩, .slice none 0 0, .slice none 0 0] TVAL)
  rw [World.size_alloc, hW] at this
  exact this
 have hb2 : Blk W (w.heap.size + 1 + 1) TVAL #[.int .u8 0, .int .i64 0, .string ⟨#[]⟩, .slice none 0 0, .slice none 0 0] := by
  have := Blk.new ((w.alloc (.cells (vC v B1 d1 B2 d2) TVAL)).alloc (.cells #[.int .u8 3, .int .u32 c1, .int .u32 c2, .int .u8 0, .int .i64 0, .string ⟨#[]⟩, .slice Az 0 cz, .slice Bz 0 dz, .slice none 0 0] TENT)) TVAL #[.int .u8 0, .int .i64 0, .string ⟨#[]⟩, .slice none 0 0, .slice none 0 0]
  rw [World.size_alloc, World.size_alloc, hW] at this
  exact this
 have HE := hid hE
 have HB1 := hid hb1
 have HB2 := hid hb2
 obtain ⟨x0, x1, x2, x3, x4, x5, x6, x7, x8⟩ := blk9 hb1
 have HZZ := hid (hz.ext hE)
 clear q1 q2 hE hb1 hb2 hz
 go_enter Tryd.func20, Tryd.ntmps20
 go_wp2_with fail
 clear hW
 refine (rsound10_gone W c1 c2 Az cz Bz dz S3 HZZ.out).mono ?_
 rintro e w1 ⟨rfl, hE1⟩
 have HB3 := hid (HB1.out.keep hE1 id)
 have HB4 := hid (HB2.out.keep hE1 id)
 have HE1 := hid (HE.out.ext hE1)
 clear x0 x1 x2 x3 x4 x5 x6 x7 x8 hE1
 obtain ⟨x0, x1, x2, x3, x4, x5, x6, x7, x8⟩ := blk9 HB3.out
 obtain ⟨y0, y1, y2, y3, y4⟩ := blk5 HB4.out
 have f2 := HB4.out.frozen
 go_wp2_with fail
 have hk := set5_keep w1 (w.heap.size + 1 + 1) 0 (.int .u8 0) (.int .i64 0) (.string ⟨#[]⟩) (.slice none 0 0) (.slice none 0 0)
 have hf := set5_full HB4.out (.int .u8 0) (.int .i64 0) (.string ⟨#[]⟩) (.slice none 0 0) (.slice none 0 0)
 change bodyPost _ _ _ _ _ (set5 w1 (w.heap.size + 1 + 1) 0 (.int .u8 0) (.int .i64 0) (.string ⟨#[]⟩) (.slice none 0 0) (.slice none 0 0))
 generalize set5 w1 (w.heap.size + 1 + 1) 0 (.int .u8 0) (.int .i64 0) (.string ⟨#[]⟩) (.slice none 0 0) (.slice none 0 0) = Wf at *
 obtain ⟨s0, s1, s2, s3, s4⟩ := blk5 hf
 refine bodyPost_ret (v := .tuple #[.agg #[.int .u8 0, .int .i64 0, .string ⟨#[]⟩, .slice none 0 0, .slice none 0 0], .bool false, .int .i64 0]) (by simp [results, Tryd.results20, go_sem, s0, s1, s2, s3, s4]) rfl ?_
 exact ⟨rfl, HE1.out.trans hk fun k h1 h2 => by omega⟩
theorem fold_edit (w0 : World) (hva : ValAny w0) (w : World) (hw : Ext w0 w) (S S2 : BS) (u ov : Value) (v z : V) (c1 c2 : Int) (Az : Option Addr) (cz : Nat) (Bz : Option Addr) (dz : Nat) (S3 : BS) (hzz : ZAt w S3 Az cz Bz dz) (cs : List Cp) (hv : VAt w S u v) (hvz : v.size ≤ 1000000) (ho : Sl ECp w S2 ov cs) (hn : cs.length ≤ 200) (hs : ∀ c ∈ cs, Snd6 c) (hd : DoesC w0 v cs z) (hz : Wide z) :
  Calls Tryd.prog 20 #[u, .bool true, entV 2 c1 c2 Az cz Bz dz ov] w (FoldTo w z) := by
 obtain ⟨l1, o1, rfl, q1, q2⟩ := hv
 obtain ⟨B1, d1, rfl, _⟩ := q1.shape
 obtain ⟨B2, d2, rfl, _⟩ := q2.shape
 obtain ⟨A, c, rfl, hlc, hcm⟩ := ho.shape
 obtain ⟨W, hW⟩ : ∃ W, ((w.alloc (.cells (vC v B1 d1 B2 d2) TVAL)).alloc (.cells #[.int .u8 2, .int .u32 c1, .int .u32 c2, .int .u8 0, .int .i64 0, .string ⟨#[]⟩, .slice Az 0 cz, .slice Bz 0 dz, .slice A cs.length c] TENT)).alloc (.cells #[.int .u8 0, .int .i64 0, .string ⟨#[]⟩, .slice none 0 0, .slice none 0 0] TVAL) = W := ⟨_, rfl⟩
 have hE : Ext w W := by rw [← hW]; exact (((Keep.refl _ _).alloc _).alloc _).alloc _
 have hb0 : Blk W w.heap.size TVAL (vC v B1 d1 B2 d2) := by rw [← hW]; exact ((Blk.new _ _ _).alloc _).alloc _
 have hb1 : Blk W (w.heap.size + 1) TENT #[.int .u8 2, .int .u32 c1, .int .u32 c2, .int .u8 0, .int .i64 0, .string ⟨#[]⟩, .slice Az 0 cz, .slice Bz 0 dz, .slice A cs.length c] := by
  have := (Blk.new (w.alloc (.cells (vC v B1 d1 B2 d2) TVAL)) TENT #[.int .u8 2, .int .u32 c1, .int .u32 c2, .int .u8 0, .int .i64 0, .string ⟨#[]⟩, .slice Az 0 cz, .slice Bz 0 dz, .slice A cs.length c]).alloc (.cells #[.int .u8 0, .int .i64 0, .string ⟨#[]⟩, .slice none 0 0, .slice none 0 0] TVAL)
  rw [World.size_alloc, hW] at this
  exact this
 have hb2 : Blk W (w.heap.size + 1 + 1) TVAL #[.int .u8 0, .int .i64 0, .string ⟨#[]⟩, .slice none 0 0, .slice none 0 0] := by
  have := Blk.new ((w.alloc (.cells (vC v B1 d1 B2 d2) TVAL)).alloc (.cells #[.int .u8 2, .int .u32 c1, .int .u32 c2, .int .u8 0, .int .i64 0, .string ⟨#[]⟩, .slice Az 0 cz, .slice Bz 0 dz, .slice A cs.length c] TENT)) TVAL #[.int .u8 0, .int .i64 0, .string ⟨#[]⟩, .slice none 0 0, .slice none 0 0]
  rw [World.size_alloc, World.size_alloc, hW] at this
  exact this
 have HE := hid hE
 have HB0 := hid hb0
 have HB1 := hid hb1
 have HB2 := hid hb2
 have HV := hid (show VAt W S (.agg (vC v B1 d1 B2 d2)) v from ⟨_, _, rfl, q1.ext EVal.ok hE, q2.ext EField.ok hE⟩)
 have HO := hid (ho.ext ECp.ok hE)
 have HVA := hid hva
 have HVZ := hid hvz
 have HN := hid hn
 have HS := hid hs
 have HD := hid hd
 have HZ := hid hz
 have HZZ := hid (hzz.ext hE)
 have HW0 := hid (hw.ext hE)
 obtain ⟨n, hnn⟩ : ∃ n, cs.length = n := ⟨_, rfl⟩
 rw [hnn] at HB1 hW ⊢
 have HO2 := HO
 rw [hnn] at HO2
 obtain ⟨x0, x1, x2, x3, x4, x5, x6, x7, x8⟩ := blk9 HB1.out
 clear q1 q2 hE hb0 hb1 hb2 ho hva hvz hn hs hd hz hzz hw hlc hcm HO
 go_enter Tryd.func20, Tryd.ntmps20
 go_wp2_with fail
 clear hW
 refine (rsound10_edit w0 HVA.out W HW0.out _ c1 c2 Az cz Bz dz S3 HZZ.out _ cs HO2.out HN.out HS.out).mono ?_
 rintro e w1 ⟨rfl, hE1⟩
 have HB01 := hid (HB0.out.keep hE1 id)
 have HB11 := hid (HB1.out.keep hE1 id)
 have HB21 := hid (HB2.out.keep hE1 id)
 have HV1 := hid (HV.out.ext hE1)
 have HO1 := hid (HO2.out.ext ECp.ok hE1)
 have HE1 := hid (HE.out.ext hE1)
 have HW1 := hid (HW0.out.ext hE1)
 clear x0 x1 x2 x3 x4 x5 x6 x7 x8 hE1 HB0 HB1 HB2 HV HO2 HE HW0 hnn
 obtain ⟨x0, x1, x2, x3, x4, x5, x6, x7, x8⟩ := blk9 HB11.out
 obtain ⟨y0, y1, y2, y3, y4⟩ := blk5 HB01.out
 go_wp2_with fail
 refine (rdo8_ok w0 w1 HW1.out _ _ _ _ v z cs HV1.out HVZ.out HO1.out HN.out HD.out).mono ?_
 rintro e w2 ⟨u2, rfl, ⟨A5, c5, B5, d5, rfl, hl2, ho2⟩, hE2⟩
 have hA : Ext w2 (w2.alloc (.cells (vC z A5 c5 B5 d5) TVAL)) := (Keep.refl _ _).alloc _
 have HB3 := hid (Blk.new w2 TVAL (vC z A5 c5 B5 d5))
 have HV3 := hid (show VAt (w2.alloc (.cells (vC z A5 c5 B5 d5) TVAL)) (fun q => w1.heap.size ≤ q) (.agg (vC z A5 c5 B5 d5)) z from ⟨_, _, rfl, hl2.ext EVal.ok hA, ho2.ext EField.ok hA⟩)
 have HE3 := hid (HE1.out.ext (hE2.ext hA))
 have HW3 := hid (HW1.out.ext (hE2.ext hA))
 have HB23 := hid (HB21.out.keep (hE2.ext hA) id)
 clear hl2 ho2 hE2 x0 x1 x2 x3 x4 x5 x6 x7 x8 y0 y1 y2 y3 y4 HB01 HB11 HV1 HO1 HE1 HW1 hA
 have HBLT := hid HB21.out.lt
 clear HB21
 go_upto_region 18 with fail
 change Code.wp _ _ _ _ (w2.alloc (.cells (vC z A5 c5 B5 d5) TVAL))
 generalize (w2.alloc (.cells (vC z A5 c5 B5 d5) TVAL)) = w3 at *
 obtain ⟨y0, y1, y2, y3, y4⟩ := blk5 HB3.out
 go_wp2_with fail
 refine (rdeep_any 1000000 z HZ.out.size (Nat.le_refl _) _ _ w3 HV3.out).mono ?_
 rintro e w4 ⟨rfl, hE4⟩
 have HB4 := hid (HB3.out.keep hE4 id)
 have HV4 := hid (HV3.out.ext hE4)
 have HE4 := hid (HE3.out.ext hE4)
 have HW4 := hid (HW3.out.ext hE4)
 have HB24 := hid (HB23.out.keep hE4 id)
 clear hE4 y0 y1 y2 y3 y4 HB3 HV3 HE3 HW3 HB23
 obtain ⟨y0, y1, y2, y3, y4⟩ := blk5 HB4.out
 have hdl : (z.deep : Int) ≤ 1000000 := by have := V.deep_lt z; have := HZ.out.size; omega
 obtain ⟨td, htd⟩ : ∃ td, decide ((16 : Int) < (z.deep : Int)) = td := ⟨_, rfl⟩
 have HTD := hid htd
 cases td with
 | true =>
  obtain ⟨v0, v1, v2, v3, v4⟩ := blk5 HB24.out
  have fv := HB24.out.frozen
  go_wp2_with fail
  have hk := set5_keep w4 (w.heap.size + 1 + 1) 0 (.int .u8 0) (.int .i64 0) (.string ⟨#[]⟩) (.slice none 0 0) (.slice none 0 0)
  have hf := set5_full HB24.out (.int .u8 0) (.int .i64 0) (.string ⟨#[]⟩) (.slice none 0 0) (.slice none 0 0)
  change bodyPost _ _ _ _ _ (set5 w4 (w.heap.size + 1 + 1) 0 (.int .u8 0) (.int .i64 0) (.string ⟨#[]⟩) (.slice none 0 0) (.slice none 0 0))
  generalize set5 w4 (w.heap.size + 1 + 1) 0 (.int .u8 0) (.int .i64 0) (.string ⟨#[]⟩) (.slice none 0 0) (.slice none 0 0) = Wf at *
  obtain ⟨s0, s1, s2, s3, s4⟩ := blk5 hf
  refine bodyPost_ret (v := .tuple #[.agg #[.int .u8 0, .int .i64 0, .string ⟨#[]⟩, .slice none 0 0, .slice none 0 0], .bool false, .int .i64 3]) (by simp [results, Tryd.results20, go_sem, s0, s1, s2, s3, s4]) rfl ?_
  exact ⟨HE4.out.trans hk fun k h1 h2 => by omega, .inl ⟨by unfold foldBad; rw [decide_eq_true (by have := of_decide_eq_true HTD.out; omega)]; rfl, rfl⟩⟩
 | false =>
  go_wp2_with fail
  refine (rweight_any 1000000 z HZ.out.size _ _ w4 HV4.out).mono ?_
  rintro e w5 ⟨rfl, hE5⟩
  rw [HZ.out.wrap]
  have HB5 := hid (HB4.out.keep hE5 id)
  have HV5 := hid (HV4.out.ext hE5)
  have HE5 := hid (HE4.out.ext hE5)
  have HW5 := hid (HW4.out.ext hE5)
  have HB25 := hid (HB24.out.keep hE5 id)
  clear hE5 y0 y1 y2 y3 y4 HB4 HV4 HE4 HW4 HB24
  obtain ⟨y0, y1, y2, y3, y4⟩ := blk5 HB5.out
  obtain ⟨tw, htw⟩ : ∃ tw, decide ((20000 : Int) < (z.weight : Int)) = tw := ⟨_, rfl⟩
  have HTW := hid htw
  cases tw with
  | true =>
   obtain ⟨v0, v1, v2, v3, v4⟩ := blk5 HB25.out
   have fv := HB25.out.frozen
   go_wp2_with fail
   have hk := set5_keep w5 (w.heap.size + 1 + 1) 0 (.int .u8 0) (.int .i64 0) (.string ⟨#[]⟩) (.slice none 0 0) (.slice none 0 0)
   have hf := set5_full HB25.out (.int .u8 0) (.int .i64 0) (.string ⟨#[]⟩) (.slice none 0 0) (.slice none 0 0)
   change bodyPost _ _ _ _ _ (set5 w5 (w.heap.size + 1 + 1) 0 (.int .u8 0) (.int .i64 0) (.string ⟨#[]⟩) (.slice none 0 0) (.slice none 0 0))
   generalize set5 w5 (w.heap.size + 1 + 1) 0 (.int .u8 0) (.int .i64 0) (.string ⟨#[]⟩) (.slice none 0 0) (.slice none 0 0) = Wf at *
   obtain ⟨s0, s1, s2, s3, s4⟩ := blk5 hf
   refine bodyPost_ret (v := .tuple #[.agg #[.int .u8 0, .int .i64 0, .string ⟨#[]⟩, .slice none 0 0, .slice none 0 0], .bool false, .int .i64 3]) (by simp [results, Tryd.results20, go_sem, s0, s1, s2, s3, s4]) rfl ?_
   exact ⟨HE5.out.trans hk fun k h1 h2 => by omega, .inl ⟨by unfold foldBad; rw [decide_eq_true (show 20000 < z.weight by have := of_decide_eq_true HTW.out; omega)]; simp, rfl⟩⟩
  | false =>
   go_wp2_with fail
   refine (rbig_ok w0 HVA.out z HZ.out _ _ w5 HW5.out HV5.out).mono ?_
   rintro e w6 ⟨rfl, hE6⟩
   have HB6 := hid (HB5.out.keep hE6 id)
   have HV6 := hid (HV5.out.ext hE6)
   have HE6 := hid (HE5.out.ext hE6)
   have HB26 := hid (HB25.out.keep hE6 id)
   clear hE6 y0 y1 y2 y3 y4 HB5 HV5 HE5 HW5 HB25
   obtain ⟨tb, htb⟩ : ∃ tb, bigB z = tb := ⟨_, rfl⟩
   have HTB := hid htb
   rw [htb]
   clear htb
   cases tb with
   | true =>
    obtain ⟨v0, v1, v2, v3, v4⟩ := blk5 HB26.out
    have fv := HB26.out.frozen
    go_wp2_with fail
    have hk := set5_keep w6 (w.heap.size + 1 + 1) 0 (.int .u8 0) (.int .i64 0) (.string ⟨#[]⟩) (.slice none 0 0) (.slice none 0 0)
    have hf := set5_full HB26.out (.int .u8 0) (.int .i64 0) (.string ⟨#[]⟩) (.slice none 0 0) (.slice none 0 0)
    change bodyPost _ _ _ _ _ (set5 w6 (w.heap.size + 1 + 1) 0 (.int .u8 0) (.int .i64 0) (.string ⟨#[]⟩) (.slice none 0 0) (.slice none 0 0))
    generalize set5 w6 (w.heap.size + 1 + 1) 0 (.int .u8 0) (.int .i64 0) (.string ⟨#[]⟩) (.slice none 0 0) (.slice none 0 0) = Wf at *
    obtain ⟨s0, s1, s2, s3, s4⟩ := blk5 hf
    refine bodyPost_ret (v := .tuple #[.agg #[.int .u8 0, .int .i64 0, .string ⟨#[]⟩, .slice none 0 0, .slice none 0 0], .bool false, .int .i64 3]) (by simp [results, Tryd.results20, go_sem, s0, s1, s2, s3, s4]) rfl ?_
    exact ⟨HE6.out.trans hk fun k h1 h2 => by omega, .inl ⟨by unfold foldBad; rw [HTB.out]; simp, rfl⟩⟩
   | false =>
    have HFB := hid (show foldBad z = false from by
     unfold foldBad
     rw [HTB.out, decide_eq_false (show ¬ 16 < z.deep by have := of_decide_eq_false HTD.out; omega), decide_eq_false (show ¬ 20000 < z.weight by have := of_decide_eq_false HTW.out; omega)]; rfl)
    obtain ⟨y0, y1, y2, y3, y4⟩ := blk5 HB6.out
    obtain ⟨v0, v1, v2, v3, v4⟩ := blk5 HB26.out
    have fv := HB26.out.frozen
    go_wp2_with fail
    have hk := set5_keep w6 (w.heap.size + 1 + 1) 0 (U8 z.kind) (.int .i64 z.n) (.string z.s) (.slice A5 z.l.length c5) (.slice B5 z.o.length d5)
    have hf := set5_full HB26.out (U8 z.kind) (.int .i64 z.n) (.string z.s) (.slice A5 z.l.length c5) (.slice B5 z.o.length d5)
    change bodyPost _ _ _ _ _ (set5 w6 (w.heap.size + 1 + 1) 0 (U8 z.kind) (.int .i64 z.n) (.string z.s) (.slice A5 z.l.length c5) (.slice B5 z.o.length d5))
    generalize set5 w6 (w.heap.size + 1 + 1) 0 (U8 z.kind) (.int .i64 z.n) (.string z.s) (.slice A5 z.l.length c5) (.slice B5 z.o.length d5) = Wf at *
    obtain ⟨s0, s1, s2, s3, s4⟩ := blk5 hf
    refine bodyPost_ret (v := .tuple #[.agg (vC z A5 c5 B5 d5), .bool true, .int .i64 0]) (by simp [results, Tryd.results20, go_sem, s0, s1, s2, s3, s4]) rfl ?_
    have hlt := HBLT.out
    exact ⟨HE6.out.trans hk fun k h1 h2 => by omega, .inr ⟨HFB.out, _, rfl, VIs.of ((HV6.out.keep hk fun q h e => by omega).more fun k _ h => by have h : w1.heap.size ≤ k := h; omega)⟩⟩
end Go.Proofs.YtggkidnlmaindaaDoor
