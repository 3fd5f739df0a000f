/- Do4B, Do4C, SeqE, SeqB, SeqC: laid together. -/
import Derived.Test.YtioplgfopillnaaDoorMeB33
import Derived.Test.YtioplgfopillnaaDoorMeB23
import Derived.Deep.CutRange
import Derived.Deep.DeepCutAuto
import Derived.BigQuiet
import Derived.Test.YtioplgfopillnaaDoorMeB18
import Derived.Deep.QuietTactic
import Derived.IntWalk
set_option linter.unusedSimpArgs false
set_option linter.unusedVariables false
set_option maxHeartbeats 25600000
set_option maxRecDepth 20000
namespace Go.Proofs.YtioplgfopillnaaDoor
open Go.RowKit
theorem rtcheck_8 (s : ByteArray) (hs : Asc9 s) (S2 : BS) (u : Value) (p : List St) (key t : ByteArray) (i : Nat) (j : Int) (nn : Int) (xk : UInt8) (xn : Int) (xt : ByteArray) (xl : List V) (xo : List F) (w : World) (hD : DecAny w) (hcc : CAt w S2 u ⟨8, p, key, (i : Nat), j, nn, V.mk xk xn xt xl xo, t⟩) (hi : i ≤ s.size) :
  Calls Tryd.prog 72 #[.string s, u] w fun e w' => e = .returned (.int .i64 0) ∧ Ext w w' := by
 obtain ⟨pv, lv2, ov2, rfl, g1, g2, g3⟩ := hcc
 obtain ⟨Ap, cp, rfl, _⟩ := g1.shape
 obtain ⟨Al, cl, rfl, _⟩ := g2.shape
 obtain ⟨Ao, co, rfl, _⟩ := g3.shape
 simp only [V.l, V.o] at g1 g2 g3 ⊢
 have hb : Blk (w.alloc (.cells (cpCells ⟨8, p, key, (i : Nat), j, nn, V.mk xk xn xt xl xo, t⟩ (.slice Ap p.length cp) (.slice Al xl.length cl) (.slice Ao xo.length co)) TCMP)) w.heap.size TCMP (cpCells ⟨8, p, key, (i : Nat), j, nn, V.mk xk xn xt xl xo, t⟩ (.slice Ap p.length cp) (.slice Al xl.length cl) (.slice Ao xo.length co)) := Blk.new _ _ _
 have hE1 : Ext w (w.alloc (.cells (cpCells ⟨8, p, key, (i : Nat), j, nn, V.mk xk xn xt xl xo, t⟩ (.slice Ap p.length cp) (.slice Al xl.length cl) (.slice Ao xo.length co)) TCMP)) := (Keep.refl _ _).alloc _
 have HB := hid hb
 have HS := hid hs
 have HCT := hid hs.count
 have hz := hs.2
 have HE := hid hE1
 have HD := hid (hD.ext hE1)
 have hiX : ¬ (s.size : Int) < (i : Int) := by omega
 have hi0 : ¬ (i : Int) < 0 := by omega
 clear hb hE1 hD g1 g2 g3 hs
 go_enter Tryd.func72, Tryd.ntmps72
 go_upto_region 1 with fail
 change Code.wp _ _ _ _ (w.alloc (.cells (cpCells ⟨8, p, key, (i : Nat), j, nn, V.mk xk xn xt xl xo, t⟩ (.slice Ap p.length cp) (.slice Al xl.length cl) (.slice Ao xo.length co)) TCMP))
 generalize (w.alloc (.cells (cpCells ⟨8, p, key, (i : Nat), j, nn, V.mk xk xn xt xl xo, t⟩ (.slice Ap p.length cp) (.slice Al xl.length cl) (.slice Ao xo.length co)) TCMP)) = w0 at *
 have hb := HB.out
 have b0 := hb.cell 0
 have b1 := hb.cell 1
 have b2 := hb.cell 2
 have b3 := hb.cell 3
 have b4 := hb.cell 4
 have b5 := hb.cell 5
 have b6 := hb.cell 6
 have b7 := hb.cell 7
 have b8 := hb.cell 8
 have b9 := hb.cell 9
 have b10 := hb.cell 10
 have b11 := hb.cell 11
 simp [cpCells] at b0 b1 b2 b3 b4 b5 b6 b7 b8 b9 b10 b11
 clear hb
 go_wp2_with fail
 refine (rlen_any s (by omega) w0 HD.out).mono ?_
 rintro e w1 ⟨rfl, hT⟩
 rw [HCT.out]
 replace HE := hid (HE.out.ext hT)
 replace b0 := sqw hT b0
 replace b1 := sqw hT b1
 replace b2 := sqw hT b2
 replace b3 := sqw hT b3
 replace b4 := sqw hT b4
 replace b5 := sqw hT b5
 replace b6 := sqw hT b6
 replace b7 := sqw hT b7
 replace b8 := sqw hT b8
 replace b9 := sqw hT b9
 replace b10 := sqw hT b10
 replace b11 := sqw hT b11
 clear hT
 go_wp2
 go_ret
 exact ⟨rfl, HE.out⟩
theorem rtcheck_9 (s : ByteArray) (hs : Asc9 s) (S2 : BS) (u : Value) (p : List St) (key t : ByteArray) (i : Nat) (j : Int) (m : Nat) (xk : UInt8) (xn : Int) (xt : ByteArray) (xl : List V) (xo : List F) (w : World) (hD : DecAny w) (hcc : CAt w S2 u ⟨9, p, key, (i : Nat), j, (m : Nat), V.mk xk xn xt xl xo, t⟩) (hm : 1 ≤ m) (hi : i + m ≤ s.size) :
  Calls Tryd.prog 72 #[.string s, u] w fun e w' => e = .returned (.int .i64 0) ∧ Ext w w' := by
 obtain ⟨pv, lv2, ov2, rfl, g1, g2, g3⟩ := hcc
 obtain ⟨Ap, cp, rfl, _⟩ := g1.shape
 obtain ⟨Al, cl, rfl, _⟩ := g2.shape
 obtain ⟨Ao, co, rfl, _⟩ := g3.shape
 simp only [V.l, V.o] at g1 g2 g3 ⊢
 have hb : Blk (w.alloc (.cells (cpCells ⟨9, p, key, (i : Nat), j, (m : Nat), V.mk xk xn xt xl xo, t⟩ (.slice Ap p.length cp) (.slice Al xl.length cl) (.slice Ao xo.length co)) TCMP)) w.heap.size TCMP (cpCells ⟨9, p, key, (i : Nat), j, (m : Nat), V.mk xk xn xt xl xo, t⟩ (.slice Ap p.length cp) (.slice Al xl.length cl) (.slice Ao xo.length co)) := Blk.new _ _ _
 have hE1 : Ext w (w.alloc (.cells (cpCells ⟨9, p, key, (i : Nat), j, (m : Nat), V.mk xk xn xt xl xo, t⟩ (.slice Ap p.length cp) (.slice Al xl.length cl) (.slice Ao xo.length co)) TCMP)) := (Keep.refl _ _).alloc _
 have HB := hid hb
 have HS := hid hs
 have HCT := hid hs.count
 have hz := hs.2
 have HE := hid hE1
 have HD := hid (hD.ext hE1)
 have hiX : ¬ (s.size : Int) < (i : Int) := by omega
 have hi0 : ¬ (i : Int) < 0 := by omega
 have hm1 : ¬ (m : Int) < 1 := by omega
 have hm2 : ¬ (s.size : Int) - (i : Int) < (m : Int) := by omega
 have hmw : IntKind.i64.wrap ((s.size : Int) - (i : Int)) = (s.size : Int) - (i : Int) := by rw [IntKind.wrap_i64]; omega
 clear hb hE1 hD g1 g2 g3 hs
 go_enter Tryd.func72, Tryd.ntmps72
 go_upto_region 1 with fail
 change Code.wp _ _ _ _ (w.alloc (.cells (cpCells ⟨9, p, key, (i : Nat), j, (m : Nat), V.mk xk xn xt xl xo, t⟩ (.slice Ap p.length cp) (.slice Al xl.length cl) (.slice Ao xo.length co)) TCMP))
 generalize (w.alloc (.cells (cpCells ⟨9, p, key, (i : Nat), j, (m : Nat), V.mk xk xn xt xl xo, t⟩ (.slice Ap p.length cp) (.slice Al xl.length cl) (.slice Ao xo.length co)) TCMP)) = w0 at *
 have hb := HB.out
 have b0 := hb.cell 0
 have b1 := hb.cell 1
 have b2 := hb.cell 2
 have b3 := hb.cell 3
 have b4 := hb.cell 4
 have b5 := hb.cell 5
 have b6 := hb.cell 6
 have b7 := hb.cell 7
 have b8 := hb.cell 8
 have b9 := hb.cell 9
 have b10 := hb.cell 10
 have b11 := hb.cell 11
 simp [cpCells] at b0 b1 b2 b3 b4 b5 b6 b7 b8 b9 b10 b11
 clear hb
 go_wp2_with fail
 refine (rlen_any s (by omega) w0 HD.out).mono ?_
 rintro e w1 ⟨rfl, hT⟩
 rw [HCT.out]
 replace HE := hid (HE.out.ext hT)
 replace b0 := sqw hT b0
 replace b1 := sqw hT b1
 replace b2 := sqw hT b2
 replace b3 := sqw hT b3
 replace b4 := sqw hT b4
 replace b5 := sqw hT b5
 replace b6 := sqw hT b6
 replace b7 := sqw hT b7
 replace b8 := sqw hT b8
 replace b9 := sqw hT b9
 replace b10 := sqw hT b10
 replace b11 := sqw hT b11
 clear hT
 go_wp2
 go_ret
 exact ⟨rfl, HE.out⟩
theorem idx_row {w : World} {S : BS} {A : Option Addr} {c n : Nat} (h : Sl (EInt .i64) w S (.slice A (n + 1) c) (idxL (n + 1))) : ∃ g off, A = some ⟨g, off, none⟩ ∧ (∀ k, k < n + 1 → w.cell? ⟨g, off + k, none⟩ = some (.int .i64 (k : Int))) ∧ n + 1 ≤ c ∧ c ≤ maxLen := by
 have h0 : 0 < (idxL (n + 1)).length := by rw [idxL_len]; omega
 obtain ⟨A', c', e, hlc, hcm⟩ := h.shape
 rw [idxL_len] at e hlc
 injection e with e1 _ e2
 subst e1 e2
 obtain ⟨g, off, _, rfl, _⟩ := h.at_ (EInt.ok .i64) h0
 refine ⟨g, off, rfl, fun k hk => ?_, hlc, hcm⟩
 have hk' : k < (idxL (n + 1)).length := by rw [idxL_len]; exact hk
 obtain ⟨g2, off2, q, e, _, _, hrd, hc⟩ := h.at_ (EInt.ok .i64) hk'
 injection e with e
 injection e with e1 e2 _
 subst e1 e2
 have hv : (idxL (n + 1))[k] = (k : Int) := by
  have := idxL_get hk
  rw [List.getElem?_eq_getElem hk'] at this
  exact Option.some.inj this
 have hrd : q = [.int .i64 (idxL (n + 1))[k]] := hrd
 rw [hv] at hrd
 have := hc 0 (.int .i64 (k : Int)) (by rw [hrd]; rfl)
 simpa [EInt] using this
theorem rtdo_8 (s : ByteArray) (hs : Asc9 s) (S2 : BS) (u : Value) (p : List St) (key t : ByteArray) (i : Nat) (j : Int) (nn : Int) (xk : UInt8) (xn : Int) (xt : ByteArray) (xl : List V) (xo : List F) (w : World) (hD : DecAny w) (hcc : CAt w S2 u ⟨8, p, key, (i : Nat), j, nn, V.mk xk xn xt xl xo, t⟩) (hi : i ≤ s.size) (ht : t.size ≤ 1000) :
  Calls Tryd.prog 48 #[.string s, u] w fun e w' => e = .returned (.tuple #[.string (s.extract 0 i ++ t ++ s.extract i s.size), .int .i64 0]) ∧ Ext w w' := by
 obtain ⟨pv, lv2, ov2, rfl, g1, g2, g3⟩ := hcc
 obtain ⟨Ap, cp, rfl, _⟩ := g1.shape
 obtain ⟨Al, cl, rfl, _⟩ := g2.shape
 obtain ⟨Ao, co, rfl, _⟩ := g3.shape
 simp only [V.l, V.o] at g1 g2 g3 ⊢
 have hb : Blk (w.alloc (.cells (cpCells ⟨8, p, key, (i : Nat), j, nn, V.mk xk xn xt xl xo, t⟩ (.slice Ap p.length cp) (.slice Al xl.length cl) (.slice Ao xo.length co)) TCMP)) w.heap.size TCMP (cpCells ⟨8, p, key, (i : Nat), j, nn, V.mk xk xn xt xl xo, t⟩ (.slice Ap p.length cp) (.slice Al xl.length cl) (.slice Ao xo.length co)) := Blk.new _ _ _
 have hE1 : Ext w (w.alloc (.cells (cpCells ⟨8, p, key, (i : Nat), j, nn, V.mk xk xn xt xl xo, t⟩ (.slice Ap p.length cp) (.slice Al xl.length cl) (.slice Ao xo.length co)) TCMP)) := (Keep.refl _ _).alloc _
 have HB := hid hb
 have HS := hid hs
 have HCT := hid hs.count
 have hz := hs.2
 have HE := hid hE1
 have HD := hid (hD.ext hE1)
 have HCC := hid (show CAt (w.alloc (.cells (cpCells ⟨8, p, key, (i : Nat), j, nn, V.mk xk xn xt xl xo, t⟩ (.slice Ap p.length cp) (.slice Al xl.length cl) (.slice Ao xo.length co)) TCMP)) (fun _ => True) (.agg (cpCells ⟨8, p, key, (i : Nat), j, nn, V.mk xk xn xt xl xo, t⟩ (.slice Ap p.length cp) (.slice Al xl.length cl) (.slice Ao xo.length co))) ⟨8, p, key, (i : Nat), j, nn, V.mk xk xn xt xl xo, t⟩ from ⟨_, _, _, rfl, (g1.ext ESt.ok hE1).more ESt.ok fun _ _ _ => trivial, (g2.ext EVal.ok hE1).more EVal.ok fun _ _ _ => trivial, (g3.ext EField.ok hE1).more EField.ok fun _ _ _ => trivial⟩)
 clear hb hE1 hD g1 g2 g3 hs
 go_enter Tryd.func48, Tryd.ntmps48
 go_upto_region 1 with fail
 change Code.wp _ _ _ _ (w.alloc (.cells (cpCells ⟨8, p, key, (i : Nat), j, nn, V.mk xk xn xt xl xo, t⟩ (.slice Ap p.length cp) (.slice Al xl.length cl) (.slice Ao xo.length co)) TCMP))
 generalize (w.alloc (.cells (cpCells ⟨8, p, key, (i : Nat), j, nn, V.mk xk xn xt xl xo, t⟩ (.slice Ap p.length cp) (.slice Al xl.length cl) (.slice Ao xo.length co)) TCMP)) = w0 at *
 have hb := HB.out
 have b0 := hb.cell 0
 have b1 := hb.cell 1
 have b2 := hb.cell 2
 have b3 := hb.cell 3
 have b4 := hb.cell 4
 have b5 := hb.cell 5
 have b6 := hb.cell 6
 have b7 := hb.cell 7
 have b8 := hb.cell 8
 have b9 := hb.cell 9
 have b10 := hb.cell 10
 have b11 := hb.cell 11
 simp [cpCells] at b0 b1 b2 b3 b4 b5 b6 b7 b8 b9 b10 b11
 clear hb
 go_wp2_with fail
 refine (rtcheck_8 s HS.out _ _ p key t i j nn xk xn xt xl xo w0 HD.out HCC.out hi).mono ?_
 rintro e w1 ⟨rfl, hT⟩
 replace HE := hid (HE.out.ext hT)
 replace HD := hid (HD.out.ext hT)
 replace b0 := sqw hT b0
 replace b1 := sqw hT b1
 replace b2 := sqw hT b2
 replace b3 := sqw hT b3
 replace b4 := sqw hT b4
 replace b5 := sqw hT b5
 replace b6 := sqw hT b6
 replace b7 := sqw hT b7
 replace b8 := sqw hT b8
 replace b9 := sqw hT b9
 replace b10 := sqw hT b10
 replace b11 := sqw hT b11
 clear hT HCC
 go_wp2_with fail
 refine (cuts_asc s HS.out w1 HD.out).mono ?_
 rintro e w2 ⟨A, c, rfl, hrow, hT⟩
 replace HE := hid (HE.out.ext hT)
 replace b0 := sqw hT b0
 replace b1 := sqw hT b1
 replace b2 := sqw hT b2
 replace b3 := sqw hT b3
 replace b4 := sqw hT b4
 replace b5 := sqw hT b5
 replace b6 := sqw hT b6
 replace b7 := sqw hT b7
 replace b8 := sqw hT b8
 replace b9 := sqw hT b9
 replace b10 := sqw hT b10
 replace b11 := sqw hT b11
 obtain ⟨g, off, rfl, hcell, hc1, hc2⟩ := idx_row hrow
 have y1 := hcell i (by omega)
 have hi9 : (i : Int) < (s.size : Int) + 1 := by omega
 have hi8 : (i : Int) ≤ (s.size : Int) := by omega
 have hcat1 : ¬ 9223372036854775807 < (s.extract 0 i).size + t.size := by simp only [ByteArray.size_extract]; omega
 have hcat2 : ¬ 9223372036854775807 < (s.extract 0 i ++ t).size + (s.extract i s.size).size := by simp only [ByteArray.size_append, ByteArray.size_extract]; omega
 clear hT hcell hrow
 go_upto_region 6 with fail
 go_quiet (fail)
 go_wp2
 go_ret2
 exact ⟨rfl, HE.out.drewN nq⟩
theorem rtdo_9 (s : ByteArray) (hs : Asc9 s) (S2 : BS) (u : Value) (p : List St) (key t : ByteArray) (i : Nat) (j : Int) (m : Nat) (xk : UInt8) (xn : Int) (xt : ByteArray) (xl : List V) (xo : List F) (w : World) (hD : DecAny w) (hcc : CAt w S2 u ⟨9, p, key, (i : Nat), j, (m : Nat), V.mk xk xn xt xl xo, t⟩) (hm : 1 ≤ m) (hi : i + m ≤ s.size) :
  Calls Tryd.prog 48 #[.string s, u] w fun e w' => e = .returned (.tuple #[.string (s.extract 0 i ++ s.extract (i + m) s.size), .int .i64 0]) ∧ Ext w w' := by
 obtain ⟨pv, lv2, ov2, rfl, g1, g2, g3⟩ := hcc
 obtain ⟨Ap, cp, rfl, _⟩ := g1.shape
 obtain ⟨Al, cl, rfl, _⟩ := g2.shape
 obtain ⟨Ao, co, rfl, _⟩ := g3.shape
 simp only [V.l, V.o] at g1 g2 g3 ⊢
 have hb : Blk (w.alloc (.cells (cpCells ⟨9, p, key, (i : Nat), j, (m : Nat), V.mk xk xn xt xl xo, t⟩ (.slice Ap p.length cp) (.slice Al xl.length cl) (.slice Ao xo.length co)) TCMP)) w.heap.size TCMP (cpCells ⟨9, p, key, (i : Nat), j, (m : Nat), V.mk xk xn xt xl xo, t⟩ (.slice Ap p.length cp) (.slice Al xl.length cl) (.slice Ao xo.length co)) := Blk.new _ _ _
 have hE1 : Ext w (w.alloc (.cells (cpCells ⟨9, p, key, (i : Nat), j, (m : Nat), V.mk xk xn xt xl xo, t⟩ (.slice Ap p.length cp) (.slice Al xl.length cl) (.slice Ao xo.length co)) TCMP)) := (Keep.refl _ _).alloc _
 have HB := hid hb
 have HS := hid hs
 have HCT := hid hs.count
 have hz := hs.2
 have HE := hid hE1
 have HD := hid (hD.ext hE1)
 have HCC := hid (show CAt (w.alloc (.cells (cpCells ⟨9, p, key, (i : Nat), j, (m : Nat), V.mk xk xn xt xl xo, t⟩ (.slice Ap p.length cp) (.slice Al xl.length cl) (.slice Ao xo.length co)) TCMP)) (fun _ => True) (.agg (cpCells ⟨9, p, key, (i : Nat), j, (m : Nat), V.mk xk xn xt xl xo, t⟩ (.slice Ap p.length cp) (.slice Al xl.length cl) (.slice Ao xo.length co))) ⟨9, p, key, (i : Nat), j, (m : Nat), V.mk xk xn xt xl xo, t⟩ from ⟨_, _, _, rfl, (g1.ext ESt.ok hE1).more ESt.ok fun _ _ _ => trivial, (g2.ext EVal.ok hE1).more EVal.ok fun _ _ _ => trivial, (g3.ext EField.ok hE1).more EField.ok fun _ _ _ => trivial⟩)
 clear hb hE1 hD g1 g2 g3 hs
 go_enter Tryd.func48, Tryd.ntmps48
 go_upto_region 1 with fail
 change Code.wp _ _ _ _ (w.alloc (.cells (cpCells ⟨9, p, key, (i : Nat), j, (m : Nat), V.mk xk xn xt xl xo, t⟩ (.slice Ap p.length cp) (.slice Al xl.length cl) (.slice Ao xo.length co)) TCMP))
 generalize (w.alloc (.cells (cpCells ⟨9, p, key, (i : Nat), j, (m : Nat), V.mk xk xn xt xl xo, t⟩ (.slice Ap p.length cp) (.slice Al xl.length cl) (.slice Ao xo.length co)) TCMP)) = w0 at *
 have hb := HB.out
 have b0 := hb.cell 0
 have b1 := hb.cell 1
 have b2 := hb.cell 2
 have b3 := hb.cell 3
 have b4 := hb.cell 4
 have b5 := hb.cell 5
 have b6 := hb.cell 6
 have b7 := hb.cell 7
 have b8 := hb.cell 8
 have b9 := hb.cell 9
 have b10 := hb.cell 10
 have b11 := hb.cell 11
 simp [cpCells] at b0 b1 b2 b3 b4 b5 b6 b7 b8 b9 b10 b11
 clear hb
 go_wp2_with fail
 refine (rtcheck_9 s HS.out _ _ p key t i j m xk xn xt xl xo w0 HD.out HCC.out hm hi).mono ?_
 rintro e w1 ⟨rfl, hT⟩
 replace HE := hid (HE.out.ext hT)
 replace HD := hid (HD.out.ext hT)
 replace b0 := sqw hT b0
 replace b1 := sqw hT b1
 replace b2 := sqw hT b2
 replace b3 := sqw hT b3
 replace b4 := sqw hT b4
 replace b5 := sqw hT b5
 replace b6 := sqw hT b6
 replace b7 := sqw hT b7
 replace b8 := sqw hT b8
 replace b9 := sqw hT b9
 replace b10 := sqw hT b10
 replace b11 := sqw hT b11
 clear hT HCC
 go_wp2_with fail
 refine (cuts_asc s HS.out w1 HD.out).mono ?_
 rintro e w2 ⟨A, c, rfl, hrow, hT⟩
 replace HE := hid (HE.out.ext hT)
 replace b0 := sqw hT b0
 replace b1 := sqw hT b1
 replace b2 := sqw hT b2
 replace b3 := sqw hT b3
 replace b4 := sqw hT b4
 replace b5 := sqw hT b5
 replace b6 := sqw hT b6
 replace b7 := sqw hT b7
 replace b8 := sqw hT b8
 replace b9 := sqw hT b9
 replace b10 := sqw hT b10
 replace b11 := sqw hT b11
 obtain ⟨g, off, rfl, hcell, hc1, hc2⟩ := idx_row hrow
 have y1 := hcell i (by omega)
 have y2 := hcell (i + m) (by omega)
 have hsm : IntKind.i64.wrap ((i : Int) + (m : Int)) = ((i + m : Nat) : Int) := by rw [IntKind.wrap_i64]; omega
 have hs2 : ((i + m : Nat) : Int) ≤ s.size := by omega
 have hs3 : ((i + m : Nat) : Int) < (s.size : Int) + 1 := by omega
 have hi9 : (i : Int) < (s.size : Int) + 1 := by omega
 have hi8 : (i : Int) ≤ (s.size : Int) := by omega
 have hcat : ¬ 9223372036854775807 < (s.extract 0 i).size + (s.extract (i + m) s.size).size := by simp only [ByteArray.size_extract]; omega
 clear hT hcell hrow
 go_upto_region 7 with fail
 go_quiet (fail)
 go_wp2
 go_ret2
 exact ⟨rfl, HE.out.drewN nq⟩
def checkL (n : Nat) (k : UInt8) (i j : Int) : Int :=
 if knownL k = false then 31
 else if i < 0 ∨ i > (if k = 4 then (n : Int) else (n : Int) - 1) then 32
 else if k = 7 ∧ (j < 0 ∨ j ≥ (n : Int)) then 32
 else 0
theorem quiet_add_left {P : Program} {f : FuncId} {args : Array Value} {w : World} {a n : Nat} {v : Value}
  (h : Calls P f args (w.drewN (a + n)) fun e w' => e = .returned v ∧ w.drewN (a + n) = w') :
  Calls P f args (w.drewN (a + n)) fun e w'' => e = .returned v ∧ ∃ m, w'' = w.drewN (a + m) :=
 h.mono fun _ _ ⟨he, hm⟩ => ⟨he, n, hm.symm⟩
theorem quiet_left {P : Program} {f : FuncId} {args : Array Value} {w : World} {n : Nat} {v : Value}
  (h : Calls P f args (w.drewN n) fun e w' => e = .returned v ∧ w.drewN n = w') : Calls P f args (w.drewN n) fun e w'' => e = .returned v ∧ ∃ m, w'' = w.drewN m :=
 h.mono fun _ _ ⟨he, hm⟩ => ⟨he, n, hm.symm⟩
theorem ext_drewN (w : World) (n : Nat) : Ext w (w.drewN n) := by
 induction n with
 | zero => exact Keep.refl _ _
 | succ n ih => exact Keep.drew ih
theorem ext_drewN_of {a w : World} (n : Nat) (h : Ext a w) : Ext a (w.drewN n) := h.ext (ext_drewN w n)
def gapL (k : Int) (bk : UInt8) (bi bj : Int) (left : Bool) : Int :=
 if bk = 4 then k + up bi k (!left)
 else if bk = 5 then k - bl bi k
 else if bk = 7 then (k - bl bi k) + up bj (k - bl bi k) (!left)
 else k
def targetL (ai aj : Int) (bk : UInt8) (bi bj : Int) (left : Bool) : Int :=
 if bk = 4 then aj + up (bi - bl ai bi) aj (!left)
 else if bk = 5 then aj - bl (bi - bl ai bi) aj
 else if bk = 7 then (aj - bl (bi - bl ai bi) aj) + up (bj - bl (ai - bl bi ai) bj) (aj - bl (bi - bl ai bi) aj) (!left)
 else aj
theorem gap_any (bk : UInt8) (p key nn v0 v1 v2 v3 v4 s : Value) (k bi bj : Int) (left : Bool) (w : World) (hk : Sm k) (hbi : Sm bi) (hbj : Sm bj) :
  Calls Tryd.prog 82 #[.int .i64 k, cmpV (U8 bk) p key bi bj nn v0 v1 v2 v3 v4 s, .bool left] w fun e w' => e = .returned (.int .i64 (gapL k bk bi bj left)) ∧ Ext w w' := by
 obtain ⟨hk1, hk2⟩ := hk
 have hu1 := up_bd bi k (!left)
 have hb1 := bl_bd bi k
 have hu2 := up_bd bj (k - bl bi k) (!left)
 rcases kind_cases bk with rfl | rfl | rfl | rfl | ⟨h0, h4, h5, h6, h7⟩
 case' inr.inr.inr.inr => have HK := hid (show bk ≠ 4 ∧ bk ≠ 5 ∧ bk ≠ 6 ∧ bk ≠ 7 from by simp [knownL] at h0; exact ⟨h0.1.1.1, h0.1.1.2, h0.1.2, h0.2⟩)
 all_goals
  go_enter Tryd.func82, Tryd.ntmps82
  go_wp2_with (first | (go_at_call 80; refine (below_any _ _ _).mono ?_; rintro e w' ⟨rfl, rfl⟩) | (go_at_call 79; refine (upto_any _ _ _ _).mono ?_; rintro e w' ⟨rfl, rfl⟩))
  go_ret
  first | (obtain ⟨k4, k5, k6, k7⟩ := HK.out; exact ⟨by simp [gapL, k4, k5, k6, k7], (Keep.refl _ _).alloc _⟩) | exact ⟨by simp [gapL], (Keep.refl _ _).alloc _⟩
theorem target_any (ak : Value) (bk : UInt8) (ap akey ann a0 a1 a2 a3 a4 as_ p key nn v0 v1 v2 v3 v4 s : Value) (ai aj bi bj : Int) (left : Bool) (w : World) (hai : Sm ai) (haj : Sm aj) (hbi : Sm bi) (hbj : Sm bj) :
  Calls Tryd.prog 97 #[cmpV ak ap akey ai aj ann a0 a1 a2 a3 a4 as_, cmpV (U8 bk) p key bi bj nn v0 v1 v2 v3 v4 s, .bool left] w fun e w' => e = .returned (.int .i64 (targetL ai aj bk bi bj left)) ∧ Ext w w' := by
 obtain ⟨hai1, hai2⟩ := hai
 obtain ⟨haj1, haj2⟩ := haj
 obtain ⟨hbi1, hbi2⟩ := hbi
 obtain ⟨hbj1, hbj2⟩ := hbj
 have hb1 := bl_bd ai bi
 have hb2 := bl_bd bi ai
 have hb3 := bl_bd (bi - bl ai bi) aj
 have hb4 := bl_bd (ai - bl bi ai) bj
 have hu1 := up_bd (bi - bl ai bi) aj (!left)
 have hu2 := up_bd (bj - bl (ai - bl bi ai) bj) (aj - bl (bi - bl ai bi) aj) (!left)
 have e1 : IntKind.i64.wrap (bi - bl ai bi) = bi - bl ai bi := IntWalk.i64_in _ (by omega)
 have e2 : IntKind.i64.wrap (ai - bl bi ai) = ai - bl bi ai := IntWalk.i64_in _ (by omega)
 have e3 : IntKind.i64.wrap (aj - bl (bi - bl ai bi) aj) = aj - bl (bi - bl ai bi) aj := IntWalk.i64_in _ (by omega)
 have e4 : IntKind.i64.wrap (bj - bl (ai - bl bi ai) bj) = bj - bl (ai - bl bi ai) bj := IntWalk.i64_in _ (by omega)
 have e5 : IntKind.i64.wrap (aj + up (bi - bl ai bi) aj (!left)) = aj + up (bi - bl ai bi) aj (!left) := IntWalk.i64_in _ (by omega)
 rcases kind_cases bk with rfl | rfl | rfl | rfl | ⟨h0, h4, h5, h6, h7⟩
 case' inr.inr.inr.inr => have HK := hid (show bk ≠ 4 ∧ bk ≠ 5 ∧ bk ≠ 6 ∧ bk ≠ 7 from by simp [knownL] at h0; exact ⟨h0.1.1.1, h0.1.1.2, h0.1.2, h0.2⟩)
 all_goals
  go_enter Tryd.func97, Tryd.ntmps97
  go_wp2_with fail
  go_quiet ((go_at_call 80; exact quiet_left (below_any _ _ _)))
  go_wp2_with (first | (go_at_call 80; refine (below_any _ _ _).mono ?_; rintro e w' ⟨rfl, rfl⟩) | (go_at_call 79; refine (upto_any _ _ _ _).mono ?_; rintro e w' ⟨rfl, rfl⟩))
  all_goals repeat (go_quiet (first | (go_at_call 80; exact quiet_add_left (below_any _ _ _)) | (go_at_call 79; exact quiet_add_left (upto_any _ _ _ _))); go_wp2_with (first | (go_at_call 80; refine (below_any _ _ _).mono ?_; rintro e w' ⟨rfl, rfl⟩) | (go_at_call 79; refine (upto_any _ _ _ _).mono ?_; rintro e w' ⟨rfl, rfl⟩)))
  all_goals go_ret
  all_goals first | (obtain ⟨k4, k5, k6, k7⟩ := HK.out; refine ⟨by simp [targetL, k4, k5, k6, k7], ?_⟩) | refine ⟨by simp [targetL], ?_⟩
 all_goals (repeat refine ext_drewN_of _ ?_); exact ((Keep.refl _ _).alloc _).alloc _
def moveL (ai aj : Int) (bk : UInt8) (bi bj : Int) (left : Bool) : Option (Int × Int) :=
 if ai = bi ∧ bk = 5 then none
 else if ai = bi ∧ bk = 7 ∧ left = false then none
 else if ai = bi ∧ bk = 7 then some (bj, aj)
 else some (if bk = 6 then ai else (atL bk bi bj ai).1, targetL ai aj bk bi bj left)
def OneAt (w w' : World) (v : Value) : Option (Array Value) → Prop
 | none => v = .slice none 0 0
 | some cs => ∃ g, v = .slice (some ⟨g, 0, none⟩) 1 1 ∧ w.heap.size ≤ g ∧ Blk w' g 33 cs
def CompIs (k p key nn v0 v1 v2 v3 v4 s : Value) (w : World) (r : Option (Int × Int)) (e : Ending) (w' : World) : Prop :=
 ∃ v, e = .returned v ∧ Ext w w' ∧ OneAt w w' v (r.map fun x => #[k, p, key, .int .i64 x.1, .int .i64 x.2, nn, v0, v1, v2, v3, v4, s])
theorem comp_none (k p key nn v0 v1 v2 v3 v4 s : Value) {w w' : World} {r : Option (Int × Int)} (hr : r = none) (hE : Ext w w') : CompIs k p key nn v0 v1 v2 v3 v4 s w r (.returned (.slice none 0 0)) w' :=
 ⟨_, rfl, hE, by subst hr; rfl⟩
theorem comp_some (k p key nn v0 v1 v2 v3 v4 s : Value) {w W : World} {r : Option (Int × Int)} {g : Nat} {i j : Int} (hr : r = some (i, j)) (hg : g = W.heap.size) (hE : Ext w W) :
  CompIs k p key nn v0 v1 v2 v3 v4 s w r (.returned (.slice (some ⟨g, 0, none⟩) 1 1)) (W.alloc (.cells #[k, p, key, .int .i64 i, .int .i64 j, nn, v0, v1, v2, v3, v4, s] 33)) :=
 ⟨_, rfl, hE.alloc _, by subst hr hg; exact ⟨_, rfl, hE.size, Blk.new _ _ _⟩⟩
theorem ext_own {w w1 w2 : World} {g : Nat} (h : Ext w w1) (hg : w.heap.size ≤ g) (hk : Keep (· = g) w1 w2) : Ext w w2 := h.trans hk (fun q hq e => by omega)
theorem move_any (bk : UInt8) (ak ap akey ann a0 a1 a2 a3 a4 as_ p key nn v0 v1 v2 v3 v4 s : Value) (ai aj bi bj : Int) (left : Bool) (w : World) (hai : Sm ai) (haj : Sm aj) (hbi : Sm bi) (hbj : Sm bj) :
  Calls Tryd.prog 83 #[cmpV ak ap akey ai aj ann a0 a1 a2 a3 a4 as_, cmpV (U8 bk) p key bi bj nn v0 v1 v2 v3 v4 s, .bool left] w (CompIs ak ap akey ann a0 a1 a2 a3 a4 as_ w (moveL ai aj bk bi bj left)) := by
 obtain ⟨hai1, hai2⟩ := hai
 obtain ⟨haj1, haj2⟩ := haj
 obtain ⟨hbi1, hbi2⟩ := hbi
 obtain ⟨hbj1, hbj2⟩ := hbj
 have hA : Blk ((w.alloc (.cells #[ak, ap, akey, .int .i64 ai, .int .i64 aj, ann, a0, a1, a2, a3, a4, as_] 33)).alloc (.cells #[U8 bk, p, key, .int .i64 bi, .int .i64 bj, nn, v0, v1, v2, v3, v4, s] 33)) w.heap.size 33 #[ak, ap, akey, .int .i64 ai, .int .i64 aj, ann, a0, a1, a2, a3, a4, as_] := (Blk.new _ _ _).alloc _
 have hB : Blk ((w.alloc (.cells #[ak, ap, akey, .int .i64 ai, .int .i64 aj, ann, a0, a1, a2, a3, a4, as_] 33)).alloc (.cells #[U8 bk, p, key, .int .i64 bi, .int .i64 bj, nn, v0, v1, v2, v3, v4, s] 33)) (w.heap.size + 1) 33 #[U8 bk, p, key, .int .i64 bi, .int .i64 bj, nn, v0, v1, v2, v3, v4, s] := by
  have := Blk.new (w.alloc (.cells #[ak, ap, akey, .int .i64 ai, .int .i64 aj, ann, a0, a1, a2, a3, a4, as_] 33)) 33 #[U8 bk, p, key, .int .i64 bi, .int .i64 bj, nn, v0, v1, v2, v3, v4, s]
  rwa [World.size_alloc] at this
 have hE1 : Ext w ((w.alloc (.cells #[ak, ap, akey, .int .i64 ai, .int .i64 aj, ann, a0, a1, a2, a3, a4, as_] 33)).alloc (.cells #[U8 bk, p, key, .int .i64 bi, .int .i64 bj, nn, v0, v1, v2, v3, v4, s] 33)) := ((Keep.refl _ _).alloc _).alloc _
 have HA := hid hA
 have HB := hid hB
 have HE1 := hid hE1
 have HSA := hid (show Sm ai from ⟨hai1, hai2⟩)
 have HSAJ := hid (show Sm aj from ⟨haj1, haj2⟩)
 have HSB := hid (show Sm bi from ⟨hbi1, hbi2⟩)
 have HSBJ := hid (show Sm bj from ⟨hbj1, hbj2⟩)
 clear hA hB hE1
 by_cases he : ai = bi
 ·have he2 : (bi == bi) = true := by simp
  rcases kind_cases bk with rfl | rfl | rfl | rfl | ⟨h0, h4, h5, h6, h7⟩
  case' inr.inr.inr.inr => have HK := hid (show bk ≠ 4 ∧ bk ≠ 5 ∧ bk ≠ 6 ∧ bk ≠ 7 from by simp [knownL] at h0; exact ⟨h0.1.1.1, h0.1.1.2, h0.1.2, h0.2⟩)
  all_goals
   cases left
   all_goals
    subst he
    go_enter Tryd.func83, Tryd.ntmps83
    go_wp2_with (first
     | (go_at_call 97; refine (target_any _ _ _ _ _ _ _ _ _ _ _ _ _ _ _ _ _ _ _ _ _ _ _ _ _ _ HSA.out HSAJ.out HSB.out HSBJ.out).mono ?_; rintro e w1 ⟨rfl, hT⟩; have hA1 := HA.out.keep hT id; have hB1 := HB.out.keep hT id; have HA1 := hid hA1; have HB1 := hid hB1; have HT := hid hT;
        have qa0 := hA1.cell 0; have qa1 := hA1.cell 1; have qa2 := hA1.cell 2; have qa3 := hA1.cell 3; have qa4 := hA1.cell 4; have qa5 := hA1.cell 5; have qa6 := hA1.cell 6; have qa7 := hA1.cell 7; have qa8 := hA1.cell 8; have qa9 := hA1.cell 9; have qa10 := hA1.cell 10; have qa11 := hA1.cell 11;
        have qb0 := hB1.cell 0; have qb1 := hB1.cell 1; have qb2 := hB1.cell 2; have qb3 := hB1.cell 3; have qb4 := hB1.cell 4; have qb5 := hB1.cell 5; have qb6 := hB1.cell 6; have qb7 := hB1.cell 7; have qb8 := hB1.cell 8; have qb9 := hB1.cell 9; have qb10 := hB1.cell 10; have qb11 := hB1.cell 11;
        have f3 := hA1.frozen 3; have f4 := hA1.frozen 4;
        simp at qa0 qa1 qa2 qa3 qa4 qa5 qa6 qa7 qa8 qa9 qa10 qa11 qb0 qb1 qb2 qb3 qb4 qb5 qb6 qb7 qb8 qb9 qb10 qb11; clear hA1 hB1 hT)
     | (go_at_call 56; refine (at_any _ _ _ _ _ _ _ _ _ _ _ _ _ _ HSA.out HSB.out HSBJ.out).mono ?_; rintro e w2 ⟨rfl, hT2⟩; have hA2 := HA1.out.keep hT2 id; have HT2 := hid hT2;
        have qa0 := hA2.cell 0; have qa1 := hA2.cell 1; have qa2 := hA2.cell 2; have qa3 := hA2.cell 3; have qa4 := hA2.cell 4; have qa5 := hA2.cell 5; have qa6 := hA2.cell 6; have qa7 := hA2.cell 7; have qa8 := hA2.cell 8; have qa9 := hA2.cell 9; have qa10 := hA2.cell 10; have qa11 := hA2.cell 11;
        have f3 := hA2.frozen 3; have f4 := hA2.frozen 4;
        simp at qa0 qa1 qa2 qa3 qa4 qa5 qa6 qa7 qa8 qa9 qa10 qa11; clear hA2 hT2))
    go_ret
  all_goals first
   | exact comp_none _ _ _ _ _ _ _ _ _ _ (by simp [moveL]; done) HE1.out
   | exact comp_some _ _ _ _ _ _ _ _ _ _ (by first | (simp [moveL]; done) | (obtain ⟨k4, k5, k6, k7⟩ := HK.out; simp [moveL, k4, k5, k6, k7]; done)) (by simp) (ext_own ((HE1.out.ext HT.out).ext HT2.out) (Nat.le_refl _) (((Keep.refl (· = w.heap.size) _).set1 3 _).set1 4 _))
   | exact comp_some _ _ _ _ _ _ _ _ _ _ (by first | (simp [moveL]; done) | (obtain ⟨k4, k5, k6, k7⟩ := HK.out; simp [moveL, k4, k5, k6, k7]; done)) (by simp) (ext_own (HE1.out.ext HT.out) (Nat.le_refl _) ((Keep.refl (· = w.heap.size) _).set1 4 _))
   | exact comp_some _ _ _ _ _ _ _ _ _ _ (by first | (simp [moveL]; done) | (obtain ⟨k4, k5, k6, k7⟩ := HK.out; simp [moveL, k4, k5, k6, k7]; done)) (by simp) (((Keep.refl _ _).alloc _).alloc _)
 ·have he' : (ai == bi) = false := by simpa using he
  have HNE := hid he
  clear he
  rcases kind_cases bk with rfl | rfl | rfl | rfl | ⟨h0, h4, h5, h6, h7⟩
  case' inr.inr.inr.inr => have HK := hid (show bk ≠ 4 ∧ bk ≠ 5 ∧ bk ≠ 6 ∧ bk ≠ 7 from by simp [knownL] at h0; exact ⟨h0.1.1.1, h0.1.1.2, h0.1.2, h0.2⟩)
  all_goals
   cases left
   all_goals
    go_enter Tryd.func83, Tryd.ntmps83
    go_wp2_with (first
     | (go_at_call 97; refine (target_any _ _ _ _ _ _ _ _ _ _ _ _ _ _ _ _ _ _ _ _ _ _ _ _ _ _ HSA.out HSAJ.out HSB.out HSBJ.out).mono ?_; rintro e w1 ⟨rfl, hT⟩; have hA1 := HA.out.keep hT id; have hB1 := HB.out.keep hT id; have HA1 := hid hA1; have HB1 := hid hB1; have HT := hid hT;
        have qa0 := hA1.cell 0; have qa1 := hA1.cell 1; have qa2 := hA1.cell 2; have qa3 := hA1.cell 3; have qa4 := hA1.cell 4; have qa5 := hA1.cell 5; have qa6 := hA1.cell 6; have qa7 := hA1.cell 7; have qa8 := hA1.cell 8; have qa9 := hA1.cell 9; have qa10 := hA1.cell 10; have qa11 := hA1.cell 11;
        have qb0 := hB1.cell 0; have qb1 := hB1.cell 1; have qb2 := hB1.cell 2; have qb3 := hB1.cell 3; have qb4 := hB1.cell 4; have qb5 := hB1.cell 5; have qb6 := hB1.cell 6; have qb7 := hB1.cell 7; have qb8 := hB1.cell 8; have qb9 := hB1.cell 9; have qb10 := hB1.cell 10; have qb11 := hB1.cell 11;
        have f3 := hA1.frozen 3; have f4 := hA1.frozen 4;
        simp at qa0 qa1 qa2 qa3 qa4 qa5 qa6 qa7 qa8 qa9 qa10 qa11 qb0 qb1 qb2 qb3 qb4 qb5 qb6 qb7 qb8 qb9 qb10 qb11; clear hA1 hB1 hT)
     | (go_at_call 56; refine (at_any _ _ _ _ _ _ _ _ _ _ _ _ _ _ HSA.out HSB.out HSBJ.out).mono ?_; rintro e w2 ⟨rfl, hT2⟩; have hA2 := HA1.out.keep hT2 id; have HT2 := hid hT2;
        have qa0 := hA2.cell 0; have qa1 := hA2.cell 1; have qa2 := hA2.cell 2; have qa3 := hA2.cell 3; have qa4 := hA2.cell 4; have qa5 := hA2.cell 5; have qa6 := hA2.cell 6; have qa7 := hA2.cell 7; have qa8 := hA2.cell 8; have qa9 := hA2.cell 9; have qa10 := hA2.cell 10; have qa11 := hA2.cell 11;
        have f3 := hA2.frozen 3; have f4 := hA2.frozen 4;
        simp at qa0 qa1 qa2 qa3 qa4 qa5 qa6 qa7 qa8 qa9 qa10 qa11; clear hA2 hT2))
    go_ret
  all_goals first
   | exact comp_none _ _ _ _ _ _ _ _ _ _ (by simp [moveL, HNE.out]; done) HE1.out
   | exact comp_some _ _ _ _ _ _ _ _ _ _ (by first | (simp [moveL, HNE.out]; done) | (obtain ⟨k4, k5, k6, k7⟩ := HK.out; simp [moveL, k4, k5, k6, k7, HNE.out]; done)) (by simp) (ext_own ((HE1.out.ext HT.out).ext HT2.out) (Nat.le_refl _) (((Keep.refl (· = w.heap.size) _).set1 3 _).set1 4 _))
   | exact comp_some _ _ _ _ _ _ _ _ _ _ (by first | (simp [moveL, HNE.out]; done) | (obtain ⟨k4, k5, k6, k7⟩ := HK.out; simp [moveL, k4, k5, k6, k7, HNE.out]; done)) (by simp) (ext_own (HE1.out.ext HT.out) (Nat.le_refl _) ((Keep.refl (· = w.heap.size) _).set1 4 _))
   | exact comp_some _ _ _ _ _ _ _ _ _ _ (by first | (simp [moveL, HNE.out]; done) | (obtain ⟨k4, k5, k6, k7⟩ := HK.out; simp [moveL, k4, k5, k6, k7, HNE.out]; done)) (by simp) (((Keep.refl _ _).alloc _).alloc _)
end Go.Proofs.YtioplgfopillnaaDoor
