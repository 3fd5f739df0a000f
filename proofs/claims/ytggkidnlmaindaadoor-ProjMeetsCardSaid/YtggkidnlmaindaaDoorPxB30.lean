/- Do5B, Do5C, Do6K, MeetB, TurnP, TurnQ, TurnR: laid together. -/
import Derived.Test.YtggkidnlmaindaaDoorPxB29
import Derived.Test.YtggkidnlmaindaaDoorPxB7
import Derived.Test.YtggkidnlmaindaaDoorPxB25
import Derived.Test.YtggkidnlmaindaaDoorPxB28
import Derived.Test.YtggkidnlmaindaaDoorPxB24
set_option linter.unusedSimpArgs false
set_option linter.unusedVariables false
set_option maxHeartbeats 25600000
set_option maxRecDepth 20000
namespace Go.Proofs.YtggkidnlmaindaaDoor
open Go.RowKit
set_option maxRecDepth 100000 in
theorem rdo5_6 (xs ys : List V) (S S2 : BS) (lv t : Value) (p : List St) (key s : ByteArray) (i j n : Int) (xk : UInt8) (xn : Int) (xt : ByteArray) (xl : List V) (xo : List F) (w : World) (hl : Sl EVal w S lv xs) (hcc : CAt w S2 t ⟨6, p, key, i, j, n, (V.mk xk xn xt xl xo), s⟩) (hf : (V.mk xk xn xt xl xo).size ≤ 1000000) (hn : xs.length ≤ 100000) (hzs : V.sizes xs ≤ 900000) (hd : doL xs ⟨6, i, j, (V.mk xk xn xt xl xo)⟩ = some ys) :
  Calls Tryd.prog 73 #[lv, t] w (RDoIs w ys) := by
 obtain ⟨pv, lv2, ov2, rfl, g1, g2, g3⟩ := hcc
 obtain ⟨Ap, cp, rfl, _⟩ := g1.shape
 obtain ⟨Al, cl, rfl, _⟩ := g2.shape
 obtain ⟨Ao, co, rfl, _⟩ := g3.shape
 simp only at g1 g2 g3
 have hck : checkL xs.length 6 i j = 0 := by
  by_cases hk : checkL xs.length 6 i j = 0
  ·exact hk
  ·unfold doL at hd; rw [if_neg hk] at hd; cases hd
 have hck2 := check_ok hck
 have hb : Blk (w.alloc (.cells (cpCells ⟨6, p, key, i, j, n, (V.mk xk xn xt xl xo), s⟩ (.slice Ap p.length cp) (.slice Al xl.length cl) (.slice Ao xo.length co)) TCMP)) w.heap.size TCMP (cpCells ⟨6, p, key, i, j, n, (V.mk xk xn xt xl xo), s⟩ (.slice Ap p.length cp) (.slice Al xl.length cl) (.slice Ao xo.length co)) := Blk.new _ _ _
 have hE1 : Ext w (w.alloc (.cells (cpCells ⟨6, p, key, i, j, n, (V.mk xk xn xt xl xo), s⟩ (.slice Ap p.length cp) (.slice Al xl.length cl) (.slice Ao xo.length co)) TCMP)) := (Keep.refl _ _).alloc _
 obtain ⟨A, c, rfl, hlc, hcm⟩ := hl.shape
 have HB := hid hb
 have HE := hid hE1
 have HL := hid hl
 have HF := hid hf
 have HZS := hid hzs
 have HXV := hid (show VAt w S2 (.agg #[U8 xk, .int .i64 xn, .string xt, .slice Al xl.length cl, .slice Ao xo.length co]) (V.mk xk xn xt xl xo) from ⟨_, _, rfl, g2, g3⟩)
 have HN := hid hn
 have HCK := hid hck
 have HC2 := hid hck2
 have HD := hid hd
 clear hzs g1 g2 g3 hb hE1 hl hf hn hck hck2 hd hcm
 simp only [cC, cpCells]
 go_enter Tryd.func73, Tryd.ntmps73
 go_wp2_with fail
 change Calls _ _ _ (w.alloc (.cells (cpCells ⟨6, p, key, i, j, n, (V.mk xk xn xt xl xo), s⟩ (.slice Ap p.length cp) (.slice Al xl.length cl) (.slice Ao xo.length co)) TCMP)) _
 generalize (w.alloc (.cells (cpCells ⟨6, p, key, i, j, n, (V.mk xk xn xt xl xo), s⟩ (.slice Ap p.length cp) (.slice Al xl.length cl) (.slice Ao xo.length co)) TCMP)) = w0 at *
 refine (rcheck_zero xs.length 6 _ _ _ _ _ _ _ _ _ i j w0 (by have := HN.out; omega) HCK.out).mono ?_
 rintro e w1 ⟨rfl, hT⟩
 rw [HCK.out]
 have hb := HB.out.keep hT id
 have HL1 := hid (HL.out.ext EVal.ok (HE.out.ext hT))
 replace HE := hid (HE.out.ext hT)
 replace HB := hid hb
 have b0 := hb.cell 0
 have b1 := hb.cell 1
 have b2 := hb.cell 2
 have b3 := hb.cell 3
 have b4 := hb.cell 4
 have b5 := hb.cell 5
 have b6 := hb.cell 6
 have b7 := hb.cell 7
 have b8 := hb.cell 8
 have b9 := hb.cell 9
 have b10 := hb.cell 10
 have b11 := hb.cell 11
 simp [cpCells] at b0 b1 b2 b3 b4 b5 b6 b7 b8 b9 b10 b11
 clear hb hT HL
 go_wp2_with fail
 refine (rcopy_any 1000000 (.mk 0 0 ⟨#[]⟩ xs []) (by rw [V.size_eq]; simp only [V.l, V.o, F.sizes]; have := HZS.out; omega) (Nat.le_refl _) _ S w1 ⟨_, _, rfl, HL1.out, Sl.nil _ _⟩).mono ?_
 rintro e w2 ⟨v2, ov2, rfl, ho2, hoo2, hne2, hE2⟩
 obtain ⟨A2, c2, rfl, hl2, hc2⟩ := ho2.shape
 obtain ⟨A2o, c2o, rfl, _⟩ := hoo2.shape
 clear hoo2 hne2
 have HXV2 := hid (HXV.out.ext (HE.out.ext hE2))
 simp only [V.l, V.kind, V.n, V.s, V.o] at hl2 ho2 ⊢
 have HO := hid ho2
 have hz2 := hE2.size
 have HZ := hid (show w.heap.size ≤ w1.heap.size from HE.out.size)
 replace HE := hid (HE.out.ext hE2)
 replace b0 := sqw hE2 b0
 replace b1 := sqw hE2 b1
 replace b2 := sqw hE2 b2
 replace b3 := sqw hE2 b3
 replace b4 := sqw hE2 b4
 replace b5 := sqw hE2 b5
 replace b6 := sqw hE2 b6
 replace b7 := sqw hE2 b7
 replace b8 := sqw hE2 b8
 replace b9 := sqw hE2 b9
 replace b10 := sqw hE2 b10
 replace b11 := sqw hE2 b11
 clear ho2 hE2 HL1
 go_wp2_with fail
 simp only [run_field_l]
 go_wp2_with fail
 refine (rcopy_any 1000000 (V.mk xk xn xt xl xo) HF.out (Nat.le_refl _) _ S2 w2 HXV2.out).mono ?_
 rintro e w3 hcp
 obtain ⟨u3, e3, hva3, hE3⟩ := hcp.at_
 obtain ⟨lv3, ov3, e4, k1, k2⟩ := hva3
 subst e4 e3
 obtain ⟨A3, c3, rfl, _⟩ := k1.shape
 obtain ⟨B3, d3, rfl, _⟩ := k2.shape
 have HVX := hid (show VAt w3 (fun k => w2.heap.size ≤ k) (.agg #[U8 xk, .int .i64 xn, .string xt, .slice A3 xl.length c3, .slice B3 xo.length d3]) (V.mk xk xn xt xl xo) from ⟨_, _, rfl, k1, k2⟩)
 clear hcp k1 k2
 have hE4 : Ext w2 (w3.alloc (.cells #[U8 xk, .int .i64 xn, .string xt, .slice A3 xl.length c3, .slice B3 xo.length d3] TVAL)) := hE3.alloc _
 have HO4 := hid (HO.out.ext EVal.ok hE4)
 have HO3 := hid (HO.out.ext EVal.ok hE3)
 have hlb : w.heap.size < w3.heap.size := by have := lt_of_cell b0; have := hE3.size; simp only at *; omega
 replace b0 := sqw hE3 b0
 replace b1 := sqw hE3 b1
 replace b2 := sqw hE3 b2
 replace b3 := sqw hE3 b3
 replace b4 := sqw hE3 b4
 replace b5 := sqw hE3 b5
 replace b6 := sqw hE3 b6
 replace b7 := sqw hE3 b7
 replace b8 := sqw hE3 b8
 replace b9 := sqw hE3 b9
 replace b10 := sqw hE3 b10
 replace b11 := sqw hE3 b11
 have HE3 := hid (HE.out.ext hE3)
 replace HE := hid (HE.out.ext hE4)
 clear hE3 hE4
 obtain ⟨a, rfl, ha⟩ : ∃ a : Nat, i = a ∧ a < xs.length := by
  rcases HC2.out with ⟨h, _⟩ | ⟨h, _⟩ | ⟨_, h1, h2⟩ | ⟨h, _⟩
  case inr.inr.inl => exact ⟨i.toNat, by omega, by omega⟩
  all_goals exact absurd h (by decide)
 have hys : xs.set a (V.mk xk xn xt xl xo) = ys := by
  have h := HD.out
  unfold doL at h
  rw [if_pos HCK.out] at h
  simpa using h
 obtain ⟨g, cap, e, hg1, hg2, _⟩ := HO3.out.form (by omega)
 injection e with e1 _ e3
 subst e1 e3
 have HG2 := hid (show g < w2.heap.size from (HO.out.lt rfl).2)
 obtain ⟨c0, hc0, hcell⟩ := HO3.out.at_ EVal.ok ha
 obtain ⟨B1, n1, d1, B2, n2, d2, rfl, _⟩ := EVal_cells hc0
 have y0 := hcell 0 _ rfl
 have y1 := hcell 1 _ rfl
 have y2 := hcell 2 _ rfl
 have y3 := hcell 3 _ rfl
 have y4 := hcell 4 _ rfl
 have e5 : EVal.size = 5 := rfl
 rw [e5] at y0 y1 y2 y3 y4
 simp only [Nat.add_zero] at y0
 have z0 := HO3.out.frozen (a * 5)
 have z1 := HO3.out.frozen (a * 5 + 1)
 have z2 := HO3.out.frozen (a * 5 + 2)
 have z3 := HO3.out.frozen (a * 5 + 3)
 have z4 := HO3.out.frozen (a * 5 + 4)
 have hcx1 : xs.length ≤ c2 := hl2
 have hcx2 : c2 ≤ 9223372036854775807 := hc2
 have haX : (a : Int) < xs.length := by omega
 have ha9 : a ≤ 100000 := by have := HN.out; omega
 have HYS := hid hys
 have HA := hid ha
 have HG1 := hid hg1
 clear hcell hc0 e5 hys HO4 HE hg1
 go_wp2
 go_ret2
 have hlen : ys.length = xs.length := by rw [← HYS.out, List.length_set]
 clear b0 b1 b2 b3 b4 b5 b6 b7 b8 b9 b10 b11 y0 y1 y2 y3 y4 z0 z1 z2 z3 z4 HB HD HCK HC2
 show RDoIs w ys _ ((set5 w3 g (a * 5) (U8 xk) (.int .i64 xn) (.string xt) (.slice A3 xl.length c3) (.slice B3 xo.length d3)).alloc (.cells #[U8 xk, .int .i64 xn, .string xt, .slice A3 xl.length c3, .slice B3 xo.length d3] TVAL))
 have hx := HVX.out
 have hfin := own_setV HO3.out HA.out hx (fun h => h.2.2.1 rfl) (fun h => by have := HG2.out; omega)
 rw [HYS.out] at hfin
 have hk := set5_keep w3 g (a * 5) (U8 xk) (.int .i64 xn) (.string xt) (.slice A3 xl.length c3) (.slice B3 xo.length d3)
 generalize set5 w3 g (a * 5) (U8 xk) (.int .i64 xn) (.string xt) (.slice A3 xl.length c3) (.slice B3 xo.length d3) = w4 at *
 refine ⟨some ⟨g, 0, none⟩, c2, by rw [hlen]; rfl, ?_, (HE3.out.trans hk fun q hq e => by have := HG1.out; have := HZ.out; omega).alloc _⟩
 rw [hlen]
 exact ((hfin.sl EVal.ok).ext EVal.ok ((Keep.refl (fun _ => False) w4).alloc _)).more EVal.ok fun k _ h => by have := HZ.out; have := hz2; rcases h with (h | h) | h; (have := h.1; omega); omega; (have := (hfin.lt h).1; omega)
theorem rdo5_7 (xs ys : List V) (S S2 : BS) (lv t : Value) (p : List St) (key s : ByteArray) (i j n : Int) (xk : UInt8) (xn : Int) (xt : ByteArray) (xl : List V) (xo : List F) (w : World) (hl : Sl EVal w S lv xs) (hcc : CAt w S2 t ⟨7, p, key, i, j, n, (V.mk xk xn xt xl xo), s⟩) (hf : (V.mk xk xn xt xl xo).size ≤ 1000000) (hn : xs.length ≤ 100000) (hzs : V.sizes xs ≤ 900000) (hd : doL xs ⟨7, i, j, (V.mk xk xn xt xl xo)⟩ = some ys) :
  Calls Tryd.prog 73 #[lv, t] w (RDoIs w ys) := by
 obtain ⟨pv, lv2, ov2, rfl, g1, g2, g3⟩ := hcc
 obtain ⟨Ap, cp, rfl, _⟩ := g1.shape
 obtain ⟨Al, cl, rfl, _⟩ := g2.shape
 obtain ⟨Ao, co, rfl, _⟩ := g3.shape
 simp only at g1 g2 g3
 have hck : checkL xs.length 7 i j = 0 := by
  by_cases hk : checkL xs.length 7 i j = 0
  ·exact hk
  ·unfold doL at hd; rw [if_neg hk] at hd; cases hd
 have hck2 := check_ok hck
 have hb : Blk (w.alloc (.cells (cpCells ⟨7, p, key, i, j, n, (V.mk xk xn xt xl xo), s⟩ (.slice Ap p.length cp) (.slice Al xl.length cl) (.slice Ao xo.length co)) TCMP)) w.heap.size TCMP (cpCells ⟨7, p, key, i, j, n, (V.mk xk xn xt xl xo), s⟩ (.slice Ap p.length cp) (.slice Al xl.length cl) (.slice Ao xo.length co)) := Blk.new _ _ _
 have hE1 : Ext w (w.alloc (.cells (cpCells ⟨7, p, key, i, j, n, (V.mk xk xn xt xl xo), s⟩ (.slice Ap p.length cp) (.slice Al xl.length cl) (.slice Ao xo.length co)) TCMP)) := (Keep.refl _ _).alloc _
 obtain ⟨A, c, rfl, hlc, hcm⟩ := hl.shape
 have HB := hid hb
 have HE := hid hE1
 have HL := hid hl
 have HF := hid hf
 have HZS := hid hzs
 have HXV := hid (show VAt w S2 (.agg #[U8 xk, .int .i64 xn, .string xt, .slice Al xl.length cl, .slice Ao xo.length co]) (V.mk xk xn xt xl xo) from ⟨_, _, rfl, g2, g3⟩)
 have HN := hid hn
 have HCK := hid hck
 have HC2 := hid hck2
 have HD := hid hd
 clear hzs g1 g2 g3 hb hE1 hl hf hn hck hck2 hd hcm
 simp only [cC, cpCells]
 go_enter Tryd.func73, Tryd.ntmps73
 go_wp2_with fail
 change Calls _ _ _ (w.alloc (.cells (cpCells ⟨7, p, key, i, j, n, (V.mk xk xn xt xl xo), s⟩ (.slice Ap p.length cp) (.slice Al xl.length cl) (.slice Ao xo.length co)) TCMP)) _
 generalize (w.alloc (.cells (cpCells ⟨7, p, key, i, j, n, (V.mk xk xn xt xl xo), s⟩ (.slice Ap p.length cp) (.slice Al xl.length cl) (.slice Ao xo.length co)) TCMP)) = w0 at *
 refine (rcheck_zero xs.length 7 _ _ _ _ _ _ _ _ _ i j w0 (by have := HN.out; omega) HCK.out).mono ?_
 rintro e w1 ⟨rfl, hT⟩
 rw [HCK.out]
 have hb := HB.out.keep hT id
 have HL1 := hid (HL.out.ext EVal.ok (HE.out.ext hT))
 replace HE := hid (HE.out.ext hT)
 replace HB := hid hb
 have b0 := hb.cell 0
 have b1 := hb.cell 1
 have b2 := hb.cell 2
 have b3 := hb.cell 3
 have b4 := hb.cell 4
 have b5 := hb.cell 5
 have b6 := hb.cell 6
 have b7 := hb.cell 7
 have b8 := hb.cell 8
 have b9 := hb.cell 9
 have b10 := hb.cell 10
 have b11 := hb.cell 11
 simp [cpCells] at b0 b1 b2 b3 b4 b5 b6 b7 b8 b9 b10 b11
 clear hb hT HL
 go_wp2_with fail
 refine (rcopy_any 1000000 (.mk 0 0 ⟨#[]⟩ xs []) (by rw [V.size_eq]; simp only [V.l, V.o, F.sizes]; have := HZS.out; omega) (Nat.le_refl _) _ S w1 ⟨_, _, rfl, HL1.out, Sl.nil _ _⟩).mono ?_
 rintro e w2 ⟨v2, ov2, rfl, ho2, hoo2, hne2, hE2⟩
 obtain ⟨A2, c2, rfl, hl2, hc2⟩ := ho2.shape
 obtain ⟨A2o, c2o, rfl, _⟩ := hoo2.shape
 clear hoo2 hne2
 have HXV2 := hid (HXV.out.ext (HE.out.ext hE2))
 simp only [V.l, V.kind, V.n, V.s, V.o] at hl2 ho2 ⊢
 have HO := hid ho2
 have hz2 := hE2.size
 have HZ := hid (show w.heap.size ≤ w1.heap.size from HE.out.size)
 replace HE := hid (HE.out.ext hE2)
 replace b0 := sqw hE2 b0
 replace b1 := sqw hE2 b1
 replace b2 := sqw hE2 b2
 replace b3 := sqw hE2 b3
 replace b4 := sqw hE2 b4
 replace b5 := sqw hE2 b5
 replace b6 := sqw hE2 b6
 replace b7 := sqw hE2 b7
 replace b8 := sqw hE2 b8
 replace b9 := sqw hE2 b9
 replace b10 := sqw hE2 b10
 replace b11 := sqw hE2 b11
 clear ho2 hE2 HL1
 go_wp2_with fail
 simp only [run_field_l]
 go_wp2_with fail
 refine (rcopy_any 1000000 (V.mk xk xn xt xl xo) HF.out (Nat.le_refl _) _ S2 w2 HXV2.out).mono ?_
 rintro e w3 hcp
 obtain ⟨u3, e3, hva3, hE3⟩ := hcp.at_
 obtain ⟨lv3, ov3, e4, k1, k2⟩ := hva3
 subst e4 e3
 obtain ⟨A3, c3, rfl, _⟩ := k1.shape
 obtain ⟨B3, d3, rfl, _⟩ := k2.shape
 have HVX := hid (show VAt w3 (fun k => w2.heap.size ≤ k) (.agg #[U8 xk, .int .i64 xn, .string xt, .slice A3 xl.length c3, .slice B3 xo.length d3]) (V.mk xk xn xt xl xo) from ⟨_, _, rfl, k1, k2⟩)
 clear hcp k1 k2
 have hE4 : Ext w2 (w3.alloc (.cells #[U8 xk, .int .i64 xn, .string xt, .slice A3 xl.length c3, .slice B3 xo.length d3] TVAL)) := hE3.alloc _
 have HO4 := hid (HO.out.ext EVal.ok hE4)
 have HO3 := hid (HO.out.ext EVal.ok hE3)
 have hlb : w.heap.size < w3.heap.size := by have := lt_of_cell b0; have := hE3.size; simp only at *; omega
 replace b0 := sqw hE3 b0
 replace b1 := sqw hE3 b1
 replace b2 := sqw hE3 b2
 replace b3 := sqw hE3 b3
 replace b4 := sqw hE3 b4
 replace b5 := sqw hE3 b5
 replace b6 := sqw hE3 b6
 replace b7 := sqw hE3 b7
 replace b8 := sqw hE3 b8
 replace b9 := sqw hE3 b9
 replace b10 := sqw hE3 b10
 replace b11 := sqw hE3 b11
 have HE3 := hid (HE.out.ext hE3)
 replace HE := hid (HE.out.ext hE4)
 clear hE3 hE4 HO
 obtain ⟨a, rfl, ha⟩ : ∃ a : Nat, i = a ∧ a < xs.length := by
  rcases HC2.out with ⟨h, _⟩ | ⟨h, _⟩ | ⟨h, _⟩ | ⟨_, h1, h2, _⟩
  case inr.inr.inr => exact ⟨i.toNat, by omega, by omega⟩
  all_goals exact absurd h (by decide)
 obtain ⟨d, rfl, hdd⟩ : ∃ d : Nat, j = d ∧ d < xs.length := by
  rcases HC2.out with ⟨h, _⟩ | ⟨h, _⟩ | ⟨h, _⟩ | ⟨_, h1, h2, h3, h4⟩
  case inr.inr.inr => exact ⟨j.toNat, by omega, by omega⟩
  all_goals exact absurd h (by decide)
 obtain ⟨x, hx⟩ : ∃ x, xs[a]? = some x := ⟨xs[a], List.getElem?_eq_getElem ha⟩
 have hys : (xs.eraseIdx a).take d ++ x :: (xs.eraseIdx a).drop d = ys := by
  have h := HD.out
  unfold doL at h
  rw [if_pos HCK.out] at h
  simp only [Int.toNat_natCast] at h
  rw [hx] at h
  simpa using h
 have hel : (xs.eraseIdx a).length = xs.length - 1 := List.length_eraseIdx_of_lt ha
 obtain ⟨g, cap, e, hg1, hg2, _⟩ := HO4.out.form (by omega)
 injection e with e1 _ e3
 subst e1 e3
 obtain ⟨c0, hc0, hcell⟩ := HO4.out.at_ EVal.ok ha
 have hc0 : EVal.rd _ _ c0 x := (List.getElem?_eq_some_iff.1 hx).2 ▸ hc0
 obtain ⟨B1, n1, d1, B2, n2, d2, rfl, _, _, hva⟩ := EVal_cells hc0
 have y0 := hcell 0 _ rfl
 have y1 := hcell 1 _ rfl
 have y2 := hcell 2 _ rfl
 have y3 := hcell 3 _ rfl
 have y4 := hcell 4 _ rfl
 have e5 : EVal.size = 5 := rfl
 rw [e5] at y0 y1 y2 y3 y4
 simp only [Nat.add_zero] at y0
 have hcx1 : xs.length ≤ c2 := hl2
 have haX : (a : Int) < xs.length := by omega
 have HYS := hid hys
 have HA := hid ha
 have HDD := hid hdd
 have HEL := hid hel
 have HC0 := hid (EVal.ok.more hc0 (S' := fun q => w.heap.size ≤ q) fun k _ h => by have := HZ.out; have := h.1; omega)
 have HSL := hid ((HO4.out.sl EVal.ok).more EVal.ok (S' := fun q => w.heap.size ≤ q) fun k _ h => by have := HZ.out; rcases h with h | h; (have := h.1; omega); (have := (HO4.out.lt h).1; omega))
 have b3 : (w3.alloc (.cells #[U8 xk, .int .i64 xn, .string xt, .slice A3 xl.length c3, .slice B3 xo.length d3] TVAL)).cell? ⟨w.heap.size, 3, none⟩ = some (.int .i64 (a : Int)) := ((Keep.alloc (Keep.refl (fun _ => False) w3) _).cell hlb id).trans b3
 have b4 : (w3.alloc (.cells #[U8 xk, .int .i64 xn, .string xt, .slice A3 xl.length c3, .slice B3 xo.length d3] TVAL)).cell? ⟨w.heap.size, 4, none⟩ = some (.int .i64 (d : Int)) := ((Keep.alloc (Keep.refl (fun _ => False) w3) _).cell hlb id).trans b4
 clear hcell e5 hys HO3 HO4 HE3 hg1 hg2 hva hel HC2
 go_wp2_with fail
 change Code.wp _ _ _ _ (w3.alloc (.cells #[U8 xk, .int .i64 xn, .string xt, .slice A3 xl.length c3, .slice B3 xo.length d3] TVAL))
 generalize (w3.alloc (.cells #[U8 xk, .int .i64 xn, .string xt, .slice A3 xl.length c3, .slice B3 xo.length d3] TVAL)) = w4 at *
 have HCW := hid (fun w' (h : Ext w4 w') => without_ok xs (fun q => w.heap.size ≤ q) (some ⟨g, 0, none⟩) xs.length c2 a w' (HSL.out.ext EVal.ok h) HA.out HN.out)
 refine wp_region_three [0, 1, 4, 6, 7] [2, 3, 5, 8, 9, 10] [11] [12, 13]
  (specOf [(3, fun v w' => SlShape EVal w' (fun q => w.heap.size ≤ q) v (xs.eraseIdx a).length (xs.eraseIdx a))])
  (fun w' => Ext w4 w') ?_ (stableC_ext _) (by kernel_rfl) (by kernel_rfl) (Keep.drew (Keep.refl _ _)) ?_
 ·exact stable_cons (fun v w w' h he => h.ext EVal.ok he) stable_nil
 iterate 5
  (try simp only [Act.put, sqa, sqb, sqc])
  refine pure_run rfl rfl ?_
  apply Exists.intro
  refine ⟨fun w' => ?_, ?_⟩
  ·go_simp
   rfl
 refine pure_nil ?_
 iterate 1
  (try simp only [Act.put, sqa, sqb, sqc])
  refine growP_run rfl rfl rfl ?_
  apply Exists.intro
  refine ⟨fun w' hC hK => ?_, ?_⟩
  ·have b3 := sqw hC b3
   go_simp
   rfl
 (try simp only [Act.put, sqa, sqb, sqc])
 refine growP_eff rfl rfl rfl (fun w' hC hK => ?_) (fun v3 hv3 => ?_)
 ·have hc := HCW.out w' hC
  unfold growAt
  go_simp
  refine grow_call (hc.mono ?_)
  rintro e w'' ⟨u, rfl, h1, h2⟩
  obtain ⟨A5, c5, rfl, _, _⟩ := h1.shape
  exact ⟨_, rfl, h2, A5, c5, rfl, (h1.sl EVal.ok).more EVal.ok fun k _ h => h.elim (fun h => h.1) fun h => Nat.le_trans HE.out.size (Nat.le_trans (show Ext w4 w' from hC).size (h1.lt h).1)⟩
 obtain ⟨_, _, A5, c5, rfl, _⟩ := hv3.head
 iterate 4
  (try simp only [Act.put, sqa, sqb, sqc])
  refine growP_run rfl rfl rfl ?_
  apply Exists.intro
  refine ⟨fun w' hC hK => ?_, ?_⟩
  ·have b3 := sqw hC b3
   have b4 := sqw hC b4
   have y0 := sqw hC y0
   have y1 := sqw hC y1
   have y2 := sqw hC y2
   have y3 := sqw hC y3
   have y4 := sqw hC y4
   go_simp
   rfl
 refine growP_nil fun w5 hC hK => ?_
 change wpList _ _ _ (_ :: []) _ _
 obtain ⟨A5', c5', e7, hs5⟩ : SlShape EVal w5 (fun q => w.heap.size ≤ q) (.slice A5 (xs.eraseIdx a).length c5) (xs.eraseIdx a).length (xs.eraseIdx a) := hK (3, _) List.mem_cons_self
 have hC : Ext w4 w5 := hC
 have HW := hid (with_ok (xs.eraseIdx a) x (fun q => w.heap.size ≤ q) A5 (xs.eraseIdx a).length c5 d _ _ _ _ _ w5 hs5 (EVal.ok.keep HC0.out hC fun _ _ h => h) (by rw [HEL.out]; omega) (by rw [HEL.out]; have := HN.out; omega))
 rw [HYS.out] at HW
 replace HE := hid (HE.out.ext hC)
 clear hC hK hs5 e7 b3 b4 y0 y1 y2 y3 y4 HCW HC0 HSL hv3
 (try simp only [Act.put, sqa, sqb, sqc])
 go_wp2_with (go_at_call 90; refine HW.out.mono ?_; rintro e w6 ⟨v6, rfl, ho6, hE6⟩; obtain ⟨A6, c6, rfl, hl6, hc6⟩ := ho6.shape; have HO6 := hid ho6; have HE6 := hid hE6; clear ho6 hE6)
 refine Then.normal ?_
 iterate 2
  (try simp only [Act.put, sqa, sqb, sqc])
  refine pure_run rfl rfl ?_
  apply Exists.intro
  refine ⟨fun w' => ?_, ?_⟩
  ·go_simp
   rfl
 refine pure_nil ?_
 refine NoPanic.normal ?_
 (try simp only [Act.put, sqa, sqb, sqc])
 go_wp2
 go_ret2
 exact ⟨A6, c6, rfl, (HO6.out.sl EVal.ok).more EVal.ok fun k _ h => h.elim (fun h => h.1) fun h => Nat.le_trans HE.out.size (HO6.out.lt h).1, HE.out.ext HE6.out⟩
def TextC (n : Nat) (c : Cp) : Prop := (c.kind = 8 ∧ ∃ i : Nat, c.i = i ∧ i ≤ n) ∨ (c.kind = 9 ∧ ∃ i m : Nat, c.i = i ∧ c.n = m ∧ 1 ≤ m ∧ i + m ≤ n)
def textD (s : ByteArray) (c : Cp) : ByteArray := if c.kind = 8 then s.extract 0 c.i.toNat ++ c.s ++ s.extract c.i.toNat s.size else s.extract 0 c.i.toNat ++ s.extract (c.i.toNat + c.n.toNat) s.size
theorem rtcheck_any (s : ByteArray) (hs : Asc9 s) (S2 : BS) (u : Value) (c : Cp) (w : World) (hD : DecAny w) (hcc : CAt w S2 u c) (hc : TextC s.size c) :
  Calls Tryd.prog 87 #[.string s, u] w fun e w' => e = .returned (.int .i64 0) ∧ Ext w w' := by
 obtain ⟨k, p, key, ci, j, n, xv, t⟩ := c
 obtain ⟨xk, xn, xt, xl, xo⟩ := xv
 rcases hc with ⟨h, i, h1, h2⟩ | ⟨h, i, m, h1, h2, h3, h4⟩ <;> simp only at h h1
 ·subst h h1; exact rtcheck_8 s hs S2 u p key t i j n xk xn xt xl xo w hD hcc h2
 ·simp only at h2; subst h h1 h2; exact rtcheck_9 s hs S2 u p key t i j m xk xn xt xl xo w hD hcc h3 h4
theorem rtdo_any (s : ByteArray) (hs : Asc9 s) (S2 : BS) (u : Value) (c : Cp) (w : World) (hD : DecAny w) (hcc : CAt w S2 u c) (hc : TextC s.size c) (ht : c.s.size ≤ 1000) :
  Calls Tryd.prog 72 #[.string s, u] w fun e w' => e = .returned (.tuple #[.string (textD s c), .int .i64 0]) ∧ Ext w w' := by
 obtain ⟨k, p, key, ci, j, n, xv, t⟩ := c
 obtain ⟨xk, xn, xt, xl, xo⟩ := xv
 rcases hc with ⟨h, i, h1, h2⟩ | ⟨h, i, m, h1, h2, h3, h4⟩ <;> simp only at h h1
 ·subst h h1; simpa [textD] using rtdo_8 s hs S2 u p key t i j n xk xn xt xl xo w hD hcc h2 ht
 ·simp only at h2; subst h h1 h2; simpa [textD] using rtdo_9 s hs S2 u p key t i j m xk xn xt xl xo w hD hcc h3 h4
theorem rdo5_any (xs ys : List V) (S S2 : BS) (lv u : Value) (c : Cp) (w : World) (hl : Sl EVal w S lv xs) (hcc : CAt w S2 u c) (hf : c.v.size ≤ 1000000) (hn : xs.length ≤ 100000) (hz : V.sizes xs ≤ 900000) (hd : doL xs ⟨c.kind, c.i, c.j, c.v⟩ = some ys) :
  Calls Tryd.prog 73 #[lv, u] w (RDoIs w ys) := by
 have hck : checkL xs.length c.kind c.i c.j = 0 := by
  by_cases hk : checkL xs.length c.kind c.i c.j = 0
  ·exact hk
  ·unfold doL at hd; rw [if_neg hk] at hd; cases hd
 have hk := check_ok hck
 obtain ⟨k, p, key, i, j, n, xv, t⟩ := c
 obtain ⟨xk, xn, xt, xl, xo⟩ := xv
 rcases hk with ⟨h, _⟩ | ⟨h, _⟩ | ⟨h, _⟩ | ⟨h, _⟩ <;> simp only at h <;> subst h
 ·exact rdo5_4 xs ys S S2 lv u p key t i j n xk xn xt xl xo w hl hcc hf hn hz hd
 ·exact rdo5_5 xs ys S S2 lv u p key t i j n xk xn xt xl xo w hl hcc hf hn hz hd
 ·exact rdo5_6 xs ys S S2 lv u p key t i j n xk xn xt xl xo w hl hcc hf hn hz hd
 ·exact rdo5_7 xs ys S S2 lv u p key t i j n xk xn xt xl xo w hl hcc hf hn hz hd
theorem rcheck5_ok (n : Nat) (S2 : BS) (u : Value) (c : Cp) (w : World) (hcc : CAt w S2 u c) (hn : n ≤ 100000) (hck : checkL n c.kind c.i c.j = 0) :
  Calls Tryd.prog 89 #[.int .i64 n, u] w fun e w' => e = .returned (.int .i64 0) ∧ Ext w w' := by
 obtain ⟨pv, lv, ov, rfl, _⟩ := hcc
 have h := rcheck_zero n c.kind pv (.string c.key) (.int .i64 c.n) (U8 c.v.kind) (.int .i64 c.v.n) (.string c.v.s) lv ov (.string c.s) c.i c.j w (by omega) hck
 rw [hck] at h
 exact h
theorem rkinds_add (w : World) (S S2 : BS) (u t : Value) (x : V) (c : Cp) (hx : VAt w S u x) (hc : CAt w S2 t c) (hk : c.kind = 1) (hxk : x.kind = 2) :
  Calls Tryd.prog 86 #[u, t] w fun e w' => e = .returned (.int .i64 0) ∧ Ext w w' := by
 obtain ⟨pv, lv, ov, rfl, h1, h2, h3⟩ := hc
 obtain ⟨Ap, cp, rfl, _⟩ := h1.shape
 obtain ⟨Al, cl, rfl, _⟩ := h2.shape
 obtain ⟨Ao, co, rfl, _⟩ := h3.shape
 obtain ⟨lx, ox, rfl, k1, k2⟩ := hx
 obtain ⟨Bl, dl, rfl, _⟩ := k1.shape
 obtain ⟨Bo, do_, rfl, _⟩ := k2.shape
 obtain ⟨W, hW⟩ : ∃ W, (w.alloc (.cells (vC x Bl dl Bo do_) TVAL)).alloc (.cells (cC c Ap cp Al cl Ao co) TCMP) = W := ⟨_, rfl⟩
 have hE : Ext w W := by rw [← hW]; exact ((Keep.refl _ _).alloc _).alloc _
 have hb : Blk W w.heap.size TVAL (vC x Bl dl Bo do_) := by rw [← hW]; exact (Blk.new _ _ _).alloc _
 have hcb : Blk W (w.heap.size + 1) TCMP (cC c Ap cp Al cl Ao co) := by
  have := Blk.new (w.alloc (.cells (vC x Bl dl Bo do_) TVAL)) TCMP (cC c Ap cp Al cl Ao co)
  rw [World.size_alloc, hW] at this
  exact this
 have HCC := hid (show CAt W S2 (.agg (cC c Ap cp Al cl Ao co)) c from ⟨_, _, _, rfl, h1.ext ESt.ok hE, h2.ext EVal.ok hE, h3.ext EField.ok hE⟩)
 have HE := hid hE
 have HCB := hid hcb
 have HB := hid hb
 obtain ⟨y0, y1, y2, y3, y4⟩ := blk5 hb
 rw [hxk] at y0
 obtain ⟨x0, x1, x2, x3, x4, x5, x6, x7, x8, x9, x10, x11⟩ := sq12 hcb
 clear h1 h2 h3 k1 k2 hb hcb hxk
 clear hE
 ·rw [hk] at x0
  clear hk
  go_enter Tryd.func86, Tryd.ntmps86
  go_wp2
  go_ret
  exact ⟨rfl, HE.out⟩
theorem rkinds_text (w : World) (S S2 : BS) (u t : Value) (x : V) (c : Cp) (hx : VAt w S u x) (hc : CAt w S2 t c) (hs : Asc9 x.s) (hxk : x.kind = 3) (hD : DecAny w) (ht : TextC x.s.size c) :
  Calls Tryd.prog 86 #[u, t] w fun e w' => e = .returned (.int .i64 0) ∧ Ext w w' := by
 obtain ⟨pv, lv, ov, rfl, h1, h2, h3⟩ := hc
 obtain ⟨Ap, cp, rfl, _⟩ := h1.shape
 obtain ⟨Al, cl, rfl, _⟩ := h2.shape
 obtain ⟨Ao, co, rfl, _⟩ := h3.shape
 obtain ⟨lx, ox, rfl, k1, k2⟩ := hx
 obtain ⟨Bl, dl, rfl, _⟩ := k1.shape
 obtain ⟨Bo, do_, rfl, _⟩ := k2.shape
 obtain ⟨W, hW⟩ : ∃ W, (w.alloc (.cells (vC x Bl dl Bo do_) TVAL)).alloc (.cells (cC c Ap cp Al cl Ao co) TCMP) = W := ⟨_, rfl⟩
 have hE : Ext w W := by rw [← hW]; exact ((Keep.refl _ _).alloc _).alloc _
 have hb : Blk W w.heap.size TVAL (vC x Bl dl Bo do_) := by rw [← hW]; exact (Blk.new _ _ _).alloc _
 have hcb : Blk W (w.heap.size + 1) TCMP (cC c Ap cp Al cl Ao co) := by
  have := Blk.new (w.alloc (.cells (vC x Bl dl Bo do_) TVAL)) TCMP (cC c Ap cp Al cl Ao co)
  rw [World.size_alloc, hW] at this
  exact this
 have HCC := hid (show CAt W S2 (.agg (cC c Ap cp Al cl Ao co)) c from ⟨_, _, _, rfl, h1.ext ESt.ok hE, h2.ext EVal.ok hE, h3.ext EField.ok hE⟩)
 have HE := hid hE
 have HCB := hid hcb
 have HB := hid hb
 obtain ⟨y0, y1, y2, y3, y4⟩ := blk5 hb
 rw [hxk] at y0
 obtain ⟨x0, x1, x2, x3, x4, x5, x6, x7, x8, x9, x10, x11⟩ := sq12 hcb
 clear h1 h2 h3 k1 k2 hb hcb hxk
 have HD := hid (hD.ext hE)
 have HT := hid ht
 have HS := hid hs
 have hk : c.kind = 8 ∨ c.kind = 9 := ht.elim (fun h => .inl h.1) fun h => .inr h.1
 clear hE ht hs hD
 rcases hk with hk | hk
 ·have HCK := hid (show CAt W S2 (.agg ((cC c Ap cp Al cl Ao co).set 0 (U8 8))) c from by rw [show (cC c Ap cp Al cl Ao co).set 0 (U8 8) = (cC c Ap cp Al cl Ao co) from by rw [← hk]; rfl]; exact HCC.out)
  rw [hk] at x0
  clear hk
  go_enter Tryd.func86, Tryd.ntmps86
  go_wp2_with fail
  refine (rtcheck_any x.s HS.out _ _ c W HD.out HCK.out HT.out).mono ?_
  rintro e W2 ⟨rfl, hE2⟩
  have HE2 := hid (HE.out.ext hE2)
  clear hE2 hW
  go_wp2
  go_ret
  exact ⟨rfl, HE2.out⟩
 ·have HCK := hid (show CAt W S2 (.agg ((cC c Ap cp Al cl Ao co).set 0 (U8 9))) c from by rw [show (cC c Ap cp Al cl Ao co).set 0 (U8 9) = (cC c Ap cp Al cl Ao co) from by rw [← hk]; rfl]; exact HCC.out)
  rw [hk] at x0
  clear hk
  go_enter Tryd.func86, Tryd.ntmps86
  go_wp2_with fail
  refine (rtcheck_any x.s HS.out _ _ c W HD.out HCK.out HT.out).mono ?_
  rintro e W2 ⟨rfl, hE2⟩
  have HE2 := hid (HE.out.ext hE2)
  clear hE2 hW
  go_wp2
  go_ret
  exact ⟨rfl, HE2.out⟩
theorem rkinds_list (w : World) (S S2 : BS) (u t : Value) (x : V) (c : Cp) (hx : VAt w S u x) (hc : CAt w S2 t c) (hxl : x.l.length ≤ 100000) (hxk : x.kind = 4) (hck : checkL x.l.length c.kind c.i c.j = 0) :
  Calls Tryd.prog 86 #[u, t] w fun e w' => e = .returned (.int .i64 0) ∧ Ext w w' := by
 obtain ⟨pv, lv, ov, rfl, h1, h2, h3⟩ := hc
 obtain ⟨Ap, cp, rfl, _⟩ := h1.shape
 obtain ⟨Al, cl, rfl, _⟩ := h2.shape
 obtain ⟨Ao, co, rfl, _⟩ := h3.shape
 obtain ⟨lx, ox, rfl, k1, k2⟩ := hx
 obtain ⟨Bl, dl, rfl, _⟩ := k1.shape
 obtain ⟨Bo, do_, rfl, _⟩ := k2.shape
 obtain ⟨W, hW⟩ : ∃ W, (w.alloc (.cells (vC x Bl dl Bo do_) TVAL)).alloc (.cells (cC c Ap cp Al cl Ao co) TCMP) = W := ⟨_, rfl⟩
 have hE : Ext w W := by rw [← hW]; exact ((Keep.refl _ _).alloc _).alloc _
 have hb : Blk W w.heap.size TVAL (vC x Bl dl Bo do_) := by rw [← hW]; exact (Blk.new _ _ _).alloc _
 have hcb : Blk W (w.heap.size + 1) TCMP (cC c Ap cp Al cl Ao co) := by
  have := Blk.new (w.alloc (.cells (vC x Bl dl Bo do_) TVAL)) TCMP (cC c Ap cp Al cl Ao co)
  rw [World.size_alloc, hW] at this
  exact this
 have HCC := hid (show CAt W S2 (.agg (cC c Ap cp Al cl Ao co)) c from ⟨_, _, _, rfl, h1.ext ESt.ok hE, h2.ext EVal.ok hE, h3.ext EField.ok hE⟩)
 have HE := hid hE
 have HCB := hid hcb
 have HB := hid hb
 obtain ⟨y0, y1, y2, y3, y4⟩ := blk5 hb
 rw [hxk] at y0
 obtain ⟨x0, x1, x2, x3, x4, x5, x6, x7, x8, x9, x10, x11⟩ := sq12 hcb
 clear h1 h2 h3 k1 k2 hb hcb hxk
 have HT := hid hck
 have HXL := hid hxl
 have hk : c.kind = 4 ∨ c.kind = 5 ∨ c.kind = 6 ∨ c.kind = 7 := by rcases check_ok hck with h | h | h | h <;> simp [h.1]
 clear hE hck hxl
 rcases hk with hk | hk | hk | hk
 ·have HCK := hid (show CAt W S2 (.agg ((cC c Ap cp Al cl Ao co).set 0 (U8 4))) c from by rw [show (cC c Ap cp Al cl Ao co).set 0 (U8 4) = (cC c Ap cp Al cl Ao co) from by rw [← hk]; rfl]; exact HCC.out)
  rw [hk] at x0
  clear hk
  go_enter Tryd.func86, Tryd.ntmps86
  go_wp2_with fail
  refine (rcheck5_ok x.l.length _ _ c W HCK.out HXL.out HT.out).mono ?_
  rintro e W2 ⟨rfl, hE2⟩
  have HE2 := hid (HE.out.ext hE2)
  clear hE2 hW
  go_wp2
  go_ret
  exact ⟨rfl, HE2.out⟩
 ·have HCK := hid (show CAt W S2 (.agg ((cC c Ap cp Al cl Ao co).set 0 (U8 5))) c from by rw [show (cC c Ap cp Al cl Ao co).set 0 (U8 5) = (cC c Ap cp Al cl Ao co) from by rw [← hk]; rfl]; exact HCC.out)
  rw [hk] at x0
  clear hk
  go_enter Tryd.func86, Tryd.ntmps86
  go_wp2_with fail
  refine (rcheck5_ok x.l.length _ _ c W HCK.out HXL.out HT.out).mono ?_
  rintro e W2 ⟨rfl, hE2⟩
  have HE2 := hid (HE.out.ext hE2)
  clear hE2 hW
  go_wp2
  go_ret
  exact ⟨rfl, HE2.out⟩
 ·have HCK := hid (show CAt W S2 (.agg ((cC c Ap cp Al cl Ao co).set 0 (U8 6))) c from by rw [show (cC c Ap cp Al cl Ao co).set 0 (U8 6) = (cC c Ap cp Al cl Ao co) from by rw [← hk]; rfl]; exact HCC.out)
  rw [hk] at x0
  clear hk
  go_enter Tryd.func86, Tryd.ntmps86
  go_wp2_with fail
  refine (rcheck5_ok x.l.length _ _ c W HCK.out HXL.out HT.out).mono ?_
  rintro e W2 ⟨rfl, hE2⟩
  have HE2 := hid (HE.out.ext hE2)
  clear hE2 hW
  go_wp2
  go_ret
  exact ⟨rfl, HE2.out⟩
 ·have HCK := hid (show CAt W S2 (.agg ((cC c Ap cp Al cl Ao co).set 0 (U8 7))) c from by rw [show (cC c Ap cp Al cl Ao co).set 0 (U8 7) = (cC c Ap cp Al cl Ao co) from by rw [← hk]; rfl]; exact HCC.out)
  rw [hk] at x0
  clear hk
  go_enter Tryd.func86, Tryd.ntmps86
  go_wp2_with fail
  refine (rcheck5_ok x.l.length _ _ c W HCK.out HXL.out HT.out).mono ?_
  rintro e W2 ⟨rfl, hE2⟩
  have HE2 := hid (HE.out.ext hE2)
  clear hE2 hW
  go_wp2
  go_ret
  exact ⟨rfl, HE2.out⟩
abbrev bys (s : ByteArray) : List UInt8 := s.data.toList
def insT {α : Type} (L : List α) (i : Nat) (t : List α) : List α := L.take i ++ (t ++ L.drop i)
def delT {α : Type} (L : List α) (i m : Nat) : List α := L.take i ++ L.drop (i + m)
section
variable {α : Type} {L t u : List α} {i j m k : Nat}
theorem insT_len (h : i ≤ L.length) : (insT L i t).length = L.length + t.length := by unfold insT; rw [List.length_append, List.length_append, List.length_take, List.length_drop]; omega
theorem delT_len (h : i + m ≤ L.length) : (delT L i m).length = L.length - m := by unfold delT; rw [List.length_append, List.length_take, List.length_drop]; omega
end
theorem bys_append (a b : ByteArray) : bys (a ++ b) = bys a ++ bys b := by
 show (a ++ b).data.toList = _
 rw [ByteArray.data_append, Array.toList_append]
theorem bys_len (a : ByteArray) : (bys a).length = a.size := rfl
theorem bys_front (a : ByteArray) (i : Nat) : bys (a.extract 0 i) = (bys a).take i := by
 show (a.extract 0 i).data.toList = _
 rw [ByteArray.data_extract]
 simp [List.extract]
theorem bys_back (a : ByteArray) (i : Nat) : bys (a.extract i a.size) = (bys a).drop i := by
 show (a.extract i a.size).data.toList = _
 rw [ByteArray.data_extract]
 simp only [Array.toList_extract, List.extract]
 rw [List.take_of_length_le]
 rw [List.length_drop, bys_len]; omega
theorem textD_8 (s : ByteArray) {c : Cp} (h : c.kind = 8) : bys (textD s c) = insT (bys s) c.i.toNat (bys c.s) := by
 unfold textD insT
 rw [if_pos h, bys_append, bys_append, bys_front, bys_back, List.append_assoc]
theorem textD_9 (s : ByteArray) {c : Cp} (h : c.kind = 9) : bys (textD s c) = delT (bys s) c.i.toNat c.n.toNat := by
 unfold textD delT
 rw [if_neg (by rw [h]; decide), bys_append, bys_front, bys_back]
theorem ins_size {s : ByteArray} {c : Cp} (h : c.kind = 8) (hi : c.i.toNat ≤ s.size) : (textD s c).size = s.size + c.s.size := by
 rw [← bys_len, textD_8 s h, insT_len (by rw [bys_len]; exact hi), bys_len, bys_len]
theorem del_size {s : ByteArray} {c : Cp} (h : c.kind = 9) (hi : c.i.toNat + c.n.toNat ≤ s.size) : (textD s c).size = s.size - c.n.toNat := by
 rw [← bys_len, textD_9 s h, delT_len (by rw [bys_len]; exact hi), bys_len]
abbrev cpL (c : Cp) (pv lv ov : Value) : List Value := [U8 c.kind, pv, .string c.key, .int .i64 c.i, .int .i64 c.j, .int .i64 c.n, U8 c.v.kind, .int .i64 c.v.n, .string c.v.s, lv, ov, .string c.s]
def ECp : El Cp := { size := 12, rd := fun w S cs c => ∃ pv lv ov, cs = cpL c pv lv ov ∧ Sl ESt w S pv c.path ∧ Sl EVal w S lv c.v.l ∧ Sl EField w S ov c.v.o }
theorem ECp.ok : ECp.Ok where
 pos := by show 0 < 12; decide
 len := fun ⟨_, _, _, h, _⟩ => by subst h; rfl
 one := fun ⟨pv, lv, ov, h, h1, h2, h3⟩ u hu => by
  subst h
  obtain ⟨A, c, rfl, _⟩ := h1.shape
  obtain ⟨B, d, rfl, _⟩ := h2.shape
  obtain ⟨C, e, rfl, _⟩ := h3.shape
  simp only [List.mem_cons, List.not_mem_nil, or_false] at hu
  rcases hu with rfl | rfl | rfl | rfl | rfl | rfl | rfl | rfl | rfl | rfl | rfl | rfl <;> rfl
 keep := fun ⟨pv, lv, ov, h, h1, h2, h3⟩ hk hF => ⟨pv, lv, ov, h, h1.keep ESt.ok hk hF, h2.keep EVal.ok hk hF, h3.keep EField.ok hk hF⟩
 more := fun ⟨pv, lv, ov, h, h1, h2, h3⟩ hS => ⟨pv, lv, ov, h, h1.more ESt.ok hS, h2.more EVal.ok hS, h3.more EField.ok hS⟩
abbrev Fit (c : Cp) : Prop := c.path.length ≤ 1000 ∧ c.v.size ≤ 1000000
end Go.Proofs.YtggkidnlmaindaaDoor
