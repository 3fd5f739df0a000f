/- TurnD: laid together. -/
import Derived.Test.YtggkidnlmaindaaDoorPxB20
set_option linter.unusedSimpArgs false
set_option linter.unusedVariables false
set_option maxHeartbeats 25600000
set_option maxRecDepth 20000
namespace Go.Proofs.YtggkidnlmaindaaDoor
open Go.RowKit
def FieldOk (x : V) (k : UInt8) (key : ByteArray) (v : V) : Prop := Asc key ∧ (k = 2 ∨ (k = 3 ∧ fieldIs x.o key = true ∧ v = ZV))
def Field6Is (x : V) (pv : Value) (w : World) (e : Ending) (w' : World) : Prop :=
 ∃ (k : UInt8) (key : ByteArray) (v : V) (lv ov : Value), e = .returned (.agg #[U8 k, pv, .string key, .int .i64 0, .int .i64 0, .int .i64 0, U8 v.kind, .int .i64 v.n, .string v.s, lv, ov, .string ⟨#[]⟩]) ∧ FieldOk x k key v ∧ Sl EVal w' (fun q => w.heap.size ≤ q) lv v.l ∧ Sl EField w' (fun q => w.heap.size ≤ q) ov v.o ∧ SVd 0 v ∧ v.size ≤ 241 ∧ Ext w w'
theorem field6_ok (w : World) (S Sx : BS) (pv av xv : Value) (a : Ac) (x : V) (hx : VAt w Sx xv x) (hsx : SV x) (hxz : x.size ≤ 100000) (ha : AAt w S av a) (hwi : (Lit.int .i64 a.i).wf = true) (hpv : ∃ A n c, pv = .slice A n c) :
  Calls Tryd.prog 69 #[.agg #[.int .u8 0, pv, .string ⟨#[]⟩, .int .i64 0, .int .i64 0, .int .i64 0, .int .u8 0, .int .i64 0, .string ⟨#[]⟩, .slice none 0 0, .slice none 0 0, .string ⟨#[]⟩], av, xv] w (Field6Is x pv w) := by
 obtain ⟨ap, vv, rfl, hap, hvv⟩ := ha
 obtain ⟨Aa, ca, rfl, _⟩ := hap.shape
 obtain ⟨Av, cv, rfl, _⟩ := hvv.shape
 obtain ⟨Ap, np, cp, rfl⟩ := hpv
 have hlen := V.size_eq x
 have hl1 := V.sizes_len x.l
 have hl2 := F.sizes_len x.o
 obtain ⟨xl, xo, rfl, hxl, hxo⟩ := hx.cut
 obtain ⟨Al, cl, rfl, hcl, hclm⟩ := hxl.shape
 obtain ⟨Ao, co, rfl, hco, hcom⟩ := hxo.shape
 obtain ⟨nl, hnl⟩ : ∃ nl, x.l.length = nl := ⟨_, rfl⟩
 obtain ⟨no, hno⟩ : ∃ no, x.o.length = no := ⟨_, rfl⟩
 have hno2 : no ≤ 100000 := by omega
 rw [hnl] at hxl ⊢
 rw [hno] at hxo ⊢
 have HNO := hid hno
 clear hnl hno hlen hl1 hl2 hcl hco
 obtain ⟨W, hW⟩ : ∃ W, (((w.alloc (.cells #[.int .u8 0, .slice Ap np cp, .string ⟨#[]⟩, .int .i64 0, .int .i64 0, .int .i64 0, .int .u8 0, .int .i64 0, .string ⟨#[]⟩, .slice none 0 0, .slice none 0 0, .string ⟨#[]⟩] TCMP)).alloc (.cells (acCells a (.slice Aa a.path.length ca) (.slice Av a.v.length cv)) TACT)).alloc (.cells #[U8 x.kind, .int .i64 x.n, .string x.s, .slice Al nl cl, .slice Ao no co] TVAL)).alloc (.cells ZCMP TCMP) = W := ⟨_, rfl⟩
 have hE : Ext w W := by rw [← hW]; exact ((((Keep.refl _ _).alloc _).alloc _).alloc _).alloc _
 have hsz : W.heap.size = w.heap.size + 4 := by rw [← hW]; simp
 have hc : Blk W w.heap.size TCMP #[.int .u8 0, .slice Ap np cp, .string ⟨#[]⟩, .int .i64 0, .int .i64 0, .int .i64 0, .int .u8 0, .int .i64 0, .string ⟨#[]⟩, .slice none 0 0, .slice none 0 0, .string ⟨#[]⟩] := by rw [← hW]; exact (((Blk.new _ _ _).alloc _).alloc _).alloc _
 have hb : Blk W (w.heap.size + 1) TACT (acCells a (.slice Aa a.path.length ca) (.slice Av a.v.length cv)) := by
  have := ((Blk.new (w.alloc (.cells #[.int .u8 0, .slice Ap np cp, .string ⟨#[]⟩, .int .i64 0, .int .i64 0, .int .i64 0, .int .u8 0, .int .i64 0, .string ⟨#[]⟩, .slice none 0 0, .slice none 0 0, .string ⟨#[]⟩] TCMP)) TACT (acCells a (.slice Aa a.path.length ca) (.slice Av a.v.length cv))).alloc (.cells #[U8 x.kind, .int .i64 x.n, .string x.s, .slice Al nl cl, .slice Ao no co] TVAL)).alloc (.cells ZCMP TCMP)
  rw [World.size_alloc, hW] at this
  exact this
 have hxb : Blk W (w.heap.size + 2) TVAL #[U8 x.kind, .int .i64 x.n, .string x.s, .slice Al nl cl, .slice Ao no co] := by
  have := (Blk.new ((w.alloc (.cells #[.int .u8 0, .slice Ap np cp, .string ⟨#[]⟩, .int .i64 0, .int .i64 0, .int .i64 0, .int .u8 0, .int .i64 0, .string ⟨#[]⟩, .slice none 0 0, .slice none 0 0, .string ⟨#[]⟩] TCMP)).alloc (.cells (acCells a (.slice Aa a.path.length ca) (.slice Av a.v.length cv)) TACT)) TVAL #[U8 x.kind, .int .i64 x.n, .string x.s, .slice Al nl cl, .slice Ao no co]).alloc (.cells ZCMP TCMP)
  rw [World.size_alloc, World.size_alloc, hW] at this
  exact this
 have hr : Blk W (w.heap.size + 3) TCMP ZCMP := by
  have := Blk.new (((w.alloc (.cells #[.int .u8 0, .slice Ap np cp, .string ⟨#[]⟩, .int .i64 0, .int .i64 0, .int .i64 0, .int .u8 0, .int .i64 0, .string ⟨#[]⟩, .slice none 0 0, .slice none 0 0, .string ⟨#[]⟩] TCMP)).alloc (.cells (acCells a (.slice Aa a.path.length ca) (.slice Av a.v.length cv)) TACT)).alloc (.cells #[U8 x.kind, .int .i64 x.n, .string x.s, .slice Al nl cl, .slice Ao no co] TVAL)) TCMP ZCMP
  rw [World.size_alloc, World.size_alloc, World.size_alloc, hW] at this
  exact this
 obtain ⟨i0, hi0, hi0m⟩ := run_max0 a.i hwi
 rcases (show x.o.length = 0 ∨ (0 < x.o.length ∧ a.kind.toNat % 3 = 0) ∨ (0 < x.o.length ∧ 0 < a.kind.toNat % 3) from by omega) with h0 | ⟨h0, hr3⟩ | ⟨h0, hr3⟩
 have hX : ¬ (0 : Int) < (no : Int) := by have := HNO.out; omega
 clear h0
 rotate_left
 have h0n : 0 < no := by rw [← HNO.out]; exact h0
 have hX : (0 : Int) < (no : Int) := by omega
 have hnz : ¬ (no : Int) = 0 := by omega
 have hnz0 : ¬ no = 0 := by omega
 obtain ⟨r3, hr3'⟩ : ∃ r3, a.kind.toNat % 3 = r3 := ⟨_, rfl⟩
 rw [hr3'] at hr3
 have hk3 : ((a.kind.toNat : Int)).tmod 3 = (r3 : Int) := by rw [Int.tmod_eq_emod_of_nonneg (by omega)]; omega
 have hk3' : (a.kind.toNat : Int) % 3 = (r3 : Int) := by omega
 subst hr3
 clear h0
 rotate_left
 have h0n : 0 < no := by rw [← HNO.out]; exact h0
 have hX : (0 : Int) < (no : Int) := by omega
 have hnz : ¬ (no : Int) = 0 := by omega
 have hnz0 : ¬ no = 0 := by omega
 obtain ⟨r3, hr3'⟩ : ∃ r3, a.kind.toNat % 3 = r3 := ⟨_, rfl⟩
 rw [hr3'] at hr3
 have hk3 : ((a.kind.toNat : Int)).tmod 3 = (r3 : Int) := by rw [Int.tmod_eq_emod_of_nonneg (by omega)]; omega
 have hk3' : (a.kind.toNat : Int) % 3 = (r3 : Int) := by omega
 have hX3 : (0 : Int) < (r3 : Int) := by omega
 have hQ : ((i0 : Int)).tmod (no : Int) = ((i0 % no : Nat) : Int) := by rw [← Int.ofNat_tmod]
 obtain ⟨q, hq⟩ : ∃ q, i0 % no = q := ⟨_, rfl⟩
 have hqn : q < no := by have : i0 % no < no := Nat.mod_lt _ h0n; omega
 rw [hq] at hQ
 have hqX : (q : Int) < (no : Int) := by omega
 clear h0
 rotate_left
 all_goals
  obtain ⟨r2, hr2⟩ : ∃ r2, a.kind.toNat % 2 = r2 := ⟨_, rfl⟩
  have hr22 : r2 < 2 := by rw [← hr2]; exact Nat.mod_lt _ (by decide)
  have hkz : ((a.kind.toNat : Int)).tmod 2 = (r2 : Int) := by rw [Int.tmod_eq_emod_of_nonneg (by omega)]; omega
  have hkz2 : (a.kind.toNat : Int) % 2 = (r2 : Int) := by omega
  have b5 := hb.cell 5
  have f0 := hc.frozen 0
  have c0 := hc.cell 0
  simp at b5 c0
  have HC := hid hc
  have HB := hid hb
  have HXB := hid hxb
  have HR := hid hr
  have HE := hid hE
  have HVV := hid hvv
  have HXO := hid (hxo.ext EField.ok hE)
  have HXV := hid (show VAt W (fun k => Sx k ∧ k < w.heap.size) (.agg #[U8 x.kind, .int .i64 x.n, .string x.s, .slice Al nl cl, .slice Ao no co]) x from ⟨_, _, rfl, hxl.ext EVal.ok hE, hxo.ext EField.ok hE⟩)
  have HSX := hid hsx
  clear hap hvv hc hb hxb hr hE hxl hxo hx hsx hr2
  go_enter Tryd.func69, Tryd.ntmps69
  go_wp2_with fail
  obtain ⟨X1, hX1⟩ : ∃ X1, W.setCell ⟨w.heap.size, 0, none⟩ (.int .u8 2) = X1 := ⟨_, rfl⟩
  have hk1 : Keep (· = w.heap.size) W X1 := by rw [← hX1]; exact (Keep.refl (· = w.heap.size) W).set1 0 _
  have hx1 : Blk X1 w.heap.size TCMP #[.int .u8 2, .slice Ap np cp, .string ⟨#[]⟩, .int .i64 0, .int .i64 0, .int .i64 0, .int .u8 0, .int .i64 0, .string ⟨#[]⟩, .slice none 0 0, .slice none 0 0, .string ⟨#[]⟩] := by rw [← hX1]; exact HC.out.set_ 0 (.int .u8 2)
  rw [hX1]
  refine (plain6_ok a.s X1).mono ?_
  rintro e X2 ⟨rfl, hE2⟩
  obtain ⟨K0, hK0⟩ : ∃ K0, textOf (plainL a.s) = K0 := ⟨_, rfl⟩
  have HK0 := hid (show Asc K0 from by rw [← hK0]; exact plain_asc _)
  rw [hK0]
  have hs2 := hE2.size
  have hs1 := hk1.size
  have HX1 := hid (hx1.keep hE2 id)
  have HB1 := hid ((HB.out.keep hk1 (by omega)).keep hE2 id)
  replace HXB := hid ((HXB.out.keep hk1 (by omega)).keep hE2 id)
  have HR1 := hid ((HR.out.keep hk1 (by omega)).keep hE2 id)
  have HE1 := hid ((HE.out.trans hk1 fun k hk e => by omega).ext hE2)
  have HV1 := hid ((((HVV.out.more (S' := fun k => k < w.heap.size) ETok.ok fun k h _ => h).ext ETok.ok HE.out).keep ETok.ok hk1 fun k h e => by omega).ext ETok.ok hE2)
  replace HXO := hid ((HXO.out.keep EField.ok hk1 fun k h e => by omega).ext EField.ok hE2)
  replace HXV := hid ((HXV.out.keep hk1 fun k h e => by omega).ext hE2)
  have HS2 := hid (show w.heap.size + 4 ≤ X2.heap.size from by omega)
  clear hX1 hk1 hx1 hK0 hE2 hs1 hs2 HC HB HR HE HVV b5 c0 f0
  have b1 := HB1.out.cell 1
  have b2 := HB1.out.cell 2
  have b6 := HB1.out.cell 6
  obtain ⟨x0, x1, x2, x3, x4⟩ := sq5 HXB.out
  obtain ⟨c0, c1, c2, c3, c4, c5, c6, c7, c8, c9, c10, c11⟩ := sq12 HX1.out
  obtain ⟨f0, f1, f2, f3, f4, f5, f6, f7, f8, f9, f10, f11⟩ := sqf12 HX1.out
  obtain ⟨d0, d1, d2, d3, d4, d5, d6, d7, d8, d9, d10, d11⟩ := sq12 HR1.out
  obtain ⟨g0, g1, g2, g3, g4, g5, g6, g7, g8, g9, g10, g11⟩ := sqf12 HR1.out
  simp at b1 b2 b6
 obtain ⟨X3p, hX3p⟩ : ∃ X3p, X2.setCell ⟨w.heap.size, 2, none⟩ (.string K0) = X3p := ⟨_, rfl⟩
 have hk2 : Keep (· = w.heap.size) X2 X3p := by rw [← hX3p]; exact (Keep.refl (· = w.heap.size) X2).set1 2 _
 have hx2 : Blk X3p w.heap.size TCMP #[.int .u8 2, .slice Ap np cp, .string K0, .int .i64 0, .int .i64 0, .int .i64 0, .int .u8 0, .int .i64 0, .string ⟨#[]⟩, .slice none 0 0, .slice none 0 0, .string ⟨#[]⟩] := by rw [← hX3p]; exact HX1.out.set_ 2 (.string K0)
 replace HX1 := hid hx2
 replace HB1 := hid (HB1.out.keep hk2 (by omega))
 replace HXB := hid (HXB.out.keep hk2 (by omega))
 replace HR1 := hid (HR1.out.keep hk2 (by omega))
 have HE3 := hid (HE1.out.trans hk2 fun k hk e => by omega)
 have HV3 := hid (HV1.out.keep ETok.ok hk2 fun k h e => by omega)
 replace HXV := hid (HXV.out.keep hk2 fun k h e => by omega)
 have hs3 := hk2.size
 have HS3 := hid (show w.heap.size + 4 ≤ X3p.heap.size from by have := HS2.out; omega)
 have HX2E := hid hX3p
 clear hk2 hx2 hX3p hs3 HXO HE1 HV1
 go_wp2_with fail
 rw [HX2E.out]
 obtain ⟨KEY, hKEY⟩ : ∃ KEY, KEY = K0 := ⟨_, rfl⟩
 subst hKEY
 have HKA := HK0
 clear b1 b2 b6 x0 x1 x2 x3 x4 c0 d0 f0 g0 c1 d1 f1 g1 c2 d2 f2 g2 c3 d3 f3 g3 c4 d4 f4 g4 c5 d5 f5 g5 c6 d6 f6 g6 c7 d7 f7 g7 c8 d8 f8 g8 c9 d9 f9 g9 c10 d10 f10 g10 c11 d11 f11 g11
 have b1 := HB1.out.cell 1
 have b2 := HB1.out.cell 2
 have b6 := HB1.out.cell 6
 obtain ⟨x0, x1, x2, x3, x4⟩ := sq5 HXB.out
 obtain ⟨c0, c1, c2, c3, c4, c5, c6, c7, c8, c9, c10, c11⟩ := sq12 HX1.out
 obtain ⟨f0, f1, f2, f3, f4, f5, f6, f7, f8, f9, f10, f11⟩ := sqf12 HX1.out
 obtain ⟨d0, d1, d2, d3, d4, d5, d6, d7, d8, d9, d10, d11⟩ := sq12 HR1.out
 obtain ⟨g0, g1, g2, g3, g4, g5, g6, g7, g8, g9, g10, g11⟩ := sqf12 HR1.out
 simp at b1 b2 b6
 rotate_left
 obtain ⟨X3p, hX3p⟩ : ∃ X3p, X2.setCell ⟨w.heap.size, 2, none⟩ (.string K0) = X3p := ⟨_, rfl⟩
 have hk2 : Keep (· = w.heap.size) X2 X3p := by rw [← hX3p]; exact (Keep.refl (· = w.heap.size) X2).set1 2 _
 have hx2 : Blk X3p w.heap.size TCMP #[.int .u8 2, .slice Ap np cp, .string K0, .int .i64 0, .int .i64 0, .int .i64 0, .int .u8 0, .int .i64 0, .string ⟨#[]⟩, .slice none 0 0, .slice none 0 0, .string ⟨#[]⟩] := by rw [← hX3p]; exact HX1.out.set_ 2 (.string K0)
 replace HX1 := hid hx2
 replace HB1 := hid (HB1.out.keep hk2 (by omega))
 replace HXB := hid (HXB.out.keep hk2 (by omega))
 replace HR1 := hid (HR1.out.keep hk2 (by omega))
 have HE3 := hid (HE1.out.trans hk2 fun k hk e => by omega)
 have HV3 := hid (HV1.out.keep ETok.ok hk2 fun k h e => by omega)
 replace HXV := hid (HXV.out.keep hk2 fun k h e => by omega)
 have hs3 := hk2.size
 have HS3 := hid (show w.heap.size + 4 ≤ X3p.heap.size from by have := HS2.out; omega)
 have HX2E := hid hX3p
 clear hk2 hx2 hX3p hs3 HXO HE1 HV1
 go_wp2_with fail
 rw [HX2E.out]
 obtain ⟨KEY, hKEY⟩ : ∃ KEY, KEY = K0 := ⟨_, rfl⟩
 subst hKEY
 have HKA := HK0
 clear b1 b2 b6 x0 x1 x2 x3 x4 c0 d0 f0 g0 c1 d1 f1 g1 c2 d2 f2 g2 c3 d3 f3 g3 c4 d4 f4 g4 c5 d5 f5 g5 c6 d6 f6 g6 c7 d7 f7 g7 c8 d8 f8 g8 c9 d9 f9 g9 c10 d10 f10 g10 c11 d11 f11 g11
 have b1 := HB1.out.cell 1
 have b2 := HB1.out.cell 2
 have b6 := HB1.out.cell 6
 obtain ⟨x0, x1, x2, x3, x4⟩ := sq5 HXB.out
 obtain ⟨c0, c1, c2, c3, c4, c5, c6, c7, c8, c9, c10, c11⟩ := sq12 HX1.out
 obtain ⟨f0, f1, f2, f3, f4, f5, f6, f7, f8, f9, f10, f11⟩ := sqf12 HX1.out
 obtain ⟨d0, d1, d2, d3, d4, d5, d6, d7, d8, d9, d10, d11⟩ := sq12 HR1.out
 obtain ⟨g0, g1, g2, g3, g4, g5, g6, g7, g8, g9, g10, g11⟩ := sqf12 HR1.out
 simp at b1 b2 b6
 rotate_left
 have hqn' : q < x.o.length := by rw [HNO.out]; exact hqn
 obtain ⟨bo, oo, co', rfl, hbw, hbl, hrf, hcc⟩ := HXO.out.at_ EField.ok (k := q) hqn'
 have HAF := hid ((SF_iff _).1 ((SFs_iff _).1 ((SV_iff x).1 HSX.out).2.2.1 _ (List.getElem_mem hqn'))).1
 generalize x.o[q]'hqn' = fq at *
 obtain ⟨c00, rfl, _⟩ := rdF_iff.1 hrf
 have k0 := hcc 0 _ rfl
 have hz6 : EField.size = 6 := rfl
 simp only [hz6, Nat.add_zero] at k0
 clear hcc hrf hz6
 have hbne : bo ≠ w.heap.size := by have := hbw.2; omega
 obtain ⟨X2', hX2'⟩ : ∃ X2', X2.setCell ⟨w.heap.size, 2, none⟩ (.string K0) = X2' := ⟨_, rfl⟩
 have hk2 : Keep (· = w.heap.size) X2 X2' := by rw [← hX2']; exact (Keep.refl (· = w.heap.size) X2).set1 2 _
 have hx2 : Blk X2' w.heap.size TCMP #[.int .u8 2, .slice Ap np cp, .string K0, .int .i64 0, .int .i64 0, .int .i64 0, .int .u8 0, .int .i64 0, .string ⟨#[]⟩, .slice none 0 0, .slice none 0 0, .string ⟨#[]⟩] := by rw [← hX2']; exact HX1.out.set_ 2 (.string K0)
 replace HX1 := hid hx2
 replace HB1 := hid (HB1.out.keep hk2 (by omega))
 replace HXB := hid (HXB.out.keep hk2 (by omega))
 replace HR1 := hid (HR1.out.keep hk2 (by omega))
 replace HE1 := hid (HE1.out.trans hk2 fun k hk e => by omega)
 replace HV1 := hid (HV1.out.keep ETok.ok hk2 fun k h e => by omega)
 replace HXV := hid (HXV.out.keep hk2 fun k h e => by omega)
 replace k0 := (hk2.cell (lt_of_cell k0) (fun h => hbne h)).trans k0
 have hs3 := hk2.size
 replace HS2 := hid (show w.heap.size + 4 ≤ X2'.heap.size from by have := HS2.out; omega)
 have HX2E := hid hX2'
 clear hk2 hx2 hX2' hs3 HXO
 go_wp2_with fail
 rw [HX2E.out]
 clear b1 b2 b6 x0 x1 x2 x3 x4 c0 d0 f0 g0 c1 d1 f1 g1 c2 d2 f2 g2 c3 d3 f3 g3 c4 d4 f4 g4 c5 d5 f5 g5 c6 d6 f6 g6 c7 d7 f7 g7 c8 d8 f8 g8 c9 d9 f9 g9 c10 d10 f10 g10 c11 d11 f11 g11
 have b1 := HB1.out.cell 1
 have b2 := HB1.out.cell 2
 have b6 := HB1.out.cell 6
 obtain ⟨x0, x1, x2, x3, x4⟩ := sq5 HXB.out
 obtain ⟨c0, c1, c2, c3, c4, c5, c6, c7, c8, c9, c10, c11⟩ := sq12 HX1.out
 obtain ⟨f0, f1, f2, f3, f4, f5, f6, f7, f8, f9, f10, f11⟩ := sqf12 HX1.out
 obtain ⟨d0, d1, d2, d3, d4, d5, d6, d7, d8, d9, d10, d11⟩ := sq12 HR1.out
 obtain ⟨g0, g1, g2, g3, g4, g5, g6, g7, g8, g9, g10, g11⟩ := sqf12 HR1.out
 simp at b1 b2 b6
 refine wp_region_parts [] [0, 1, 2, 3, 4, 5, 6, 7, 8, 9, 10] [11] (specOf []) (fun w' => Ext X2' w') stable_nil (stableC_ext _) (by kernel_rfl) (by kernel_rfl) (Keep.drew (Keep.refl _ _)) ?_
 refine pure_nil ?_
 iterate 11
  (try simp only [Act.put, sqa, sqb, sqc])
  refine growP_run rfl rfl rfl ?_
  apply Exists.intro
  refine ⟨fun w' hC hK => ?_, ?_⟩
  ·have b2 := sqw hC b2
   have x4 := sqw hC x4
   have k0 := sqw hC k0
   go_simp
   rfl
 refine growP_nil fun wz hC hK => ?_
 have hC : Ext X2' wz := hC
 obtain ⟨KEY, hKEY⟩ : ∃ KEY, fq.key = KEY := ⟨_, rfl⟩
 have HKA := hid (show Asc KEY from by rw [← hKEY]; exact HAF.out)
 rw [hKEY]
 obtain ⟨X3p, hX3p⟩ : ∃ X3p, wz.setCell ⟨w.heap.size, 2, none⟩ (.string KEY) = X3p := ⟨_, rfl⟩
 have HX1z := HX1.out.keep hC id
 have hk3a : Keep (· = w.heap.size) wz X3p := by rw [← hX3p]; exact (Keep.refl (· = w.heap.size) wz).set1 2 _
 have hx3 : Blk X3p w.heap.size TCMP #[.int .u8 2, .slice Ap np cp, .string KEY, .int .i64 0, .int .i64 0, .int .i64 0, .int .u8 0, .int .i64 0, .string ⟨#[]⟩, .slice none 0 0, .slice none 0 0, .string ⟨#[]⟩] := by rw [← hX3p]; exact HX1z.set_ 2 (.string KEY)
 have fz2 := HX1z.frozen 2
 have cz2 := HX1z.cell 2
 simp at cz2
 replace HX1 := hid hx3
 replace HB1 := hid ((HB1.out.keep hC id).keep hk3a (by omega))
 replace HXB := hid ((HXB.out.keep hC id).keep hk3a (by omega))
 replace HR1 := hid ((HR1.out.keep hC id).keep hk3a (by omega))
 have HE3 := hid ((HE1.out.ext hC).trans hk3a fun k hk e => by omega)
 have HV3 := hid ((HV1.out.ext ETok.ok hC).keep ETok.ok hk3a fun k h e => by omega)
 replace HXV := hid ((HXV.out.ext hC).keep hk3a fun k h e => by omega)
 have hs4 := hk3a.size
 have hs5 := hC.size
 have HS3 := hid (show w.heap.size + 4 ≤ X3p.heap.size from by have := HS2.out; omega)
 have HX3E := hid hX3p
 clear hC hK hk3a hx3 HX1z hX3p hs4 hs5 k0 hKEY HE1 HV1 b1 b2 b6 x0 x1 x2 x3 x4 c0 d0 f0 g0 c1 d1 f1 g1 c2 d2 f2 g2 c3 d3 f3 g3 c4 d4 f4 g4 c5 d5 f5 g5 c6 d6 f6 g6 c7 d7 f7 g7 c8 d8 f8 g8 c9 d9 f9 g9 c10 d10 f10 g10 c11 d11 f11 g11
 change wpList _ _ _ (_ :: []) _ _
 (try simp only [Act.put, sqa, sqb, sqc])
 go_wp2_with fail
 refine NoPanic.normal ?_
 rw [HX3E.out]
 clear fz2 cz2
 have b1 := HB1.out.cell 1
 have b2 := HB1.out.cell 2
 have b6 := HB1.out.cell 6
 obtain ⟨x0, x1, x2, x3, x4⟩ := sq5 HXB.out
 obtain ⟨c0, c1, c2, c3, c4, c5, c6, c7, c8, c9, c10, c11⟩ := sq12 HX1.out
 obtain ⟨f0, f1, f2, f3, f4, f5, f6, f7, f8, f9, f10, f11⟩ := sqf12 HX1.out
 obtain ⟨d0, d1, d2, d3, d4, d5, d6, d7, d8, d9, d10, d11⟩ := sq12 HR1.out
 obtain ⟨g0, g1, g2, g3, g4, g5, g6, g7, g8, g9, g10, g11⟩ := sqf12 HR1.out
 simp at b1 b2 b6
 go_wp2_with fail
 rotate_left
 all_goals
  refine (rfield_val X3p _ _ x KEY HXV.out).mono ?_
  rintro e X3 ⟨rfl, hE3⟩
  have hs6 := hE3.size
  replace HX1 := hid (HX1.out.keep hE3 id)
  replace HB1 := hid (HB1.out.keep hE3 id)
  replace HXB := hid (HXB.out.keep hE3 id)
  replace HR1 := hid (HR1.out.keep hE3 id)
  replace HE3 := hid (HE3.out.ext hE3)
  replace HV3 := hid (HV3.out.ext ETok.ok hE3)
  replace HS3 := hid (show w.heap.size + 4 ≤ X3.heap.size from by have := HS3.out; omega)
  clear hE3 hs6 b1 b2 b6 x0 x1 x2 x3 x4 c0 d0 f0 g0 c1 d1 f1 g1 c2 d2 f2 g2 c3 d3 f3 g3 c4 d4 f4 g4 c5 d5 f5 g5 c6 d6 f6 g6 c7 d7 f7 g7 c8 d8 f8 g8 c9 d9 f9 g9 c10 d10 f10 g10 c11 d11 f11 g11
  have b1 := HB1.out.cell 1
  have b2 := HB1.out.cell 2
  have b6 := HB1.out.cell 6
  obtain ⟨x0, x1, x2, x3, x4⟩ := sq5 HXB.out
  obtain ⟨c0, c1, c2, c3, c4, c5, c6, c7, c8, c9, c10, c11⟩ := sq12 HX1.out
  obtain ⟨f0, f1, f2, f3, f4, f5, f6, f7, f8, f9, f10, f11⟩ := sqf12 HX1.out
  obtain ⟨d0, d1, d2, d3, d4, d5, d6, d7, d8, d9, d10, d11⟩ := sq12 HR1.out
  obtain ⟨g0, g1, g2, g3, g4, g5, g6, g7, g8, g9, g10, g11⟩ := sqf12 HR1.out
  simp at b1 b2 b6
  by_cases his : fieldIs x.o KEY = true
  ·rw [his]
   have HIS := hid his
   by_cases he : r2 = 0
   ·subst he
    obtain ⟨WZ, hWZ⟩ : ∃ WZ, (((((((((((((X3.setCell ⟨w.heap.size, 0, none⟩ (.int .u8 3)).setCell ⟨w.heap.size + 3, 0, none⟩ (.int .u8 3)).setCell ⟨w.heap.size + 3, 1, none⟩ (.slice Ap np cp)).setCell ⟨w.heap.size + 3, 2, none⟩ (.string KEY)).setCell ⟨w.heap.size + 3, 3, none⟩ (.int .i64 0)).setCell ⟨w.heap.size + 3, 4, none⟩ (.int .i64 0)).setCell ⟨w.heap.size + 3, 5, none⟩ (.int .i64 0)).setCell ⟨w.heap.size + 3, 6, none⟩ (.int .u8 0)).setCell ⟨w.heap.size + 3, 7, none⟩ (.int .i64 0)).setCell ⟨w.heap.size + 3, 8, none⟩ (.string ⟨#[]⟩)).setCell ⟨w.heap.size + 3, 9, none⟩ (.slice none 0 0)).setCell ⟨w.heap.size + 3, 10, none⟩ (.slice none 0 0)).setCell ⟨w.heap.size + 3, 11, none⟩ (.string ⟨#[]⟩)) = WZ := ⟨_, rfl⟩
    have HF := hid (show Ext w WZ from by rw [← hWZ]; exact HE3.out.trans ((((((((((((((Keep.refl (fun k => w.heap.size ≤ k) X3).setAt (fun _ => by omega) _ _).setAt (fun _ => by omega) _ _).setAt (fun _ => by omega) _ _).setAt (fun _ => by omega) _ _).setAt (fun _ => by omega) _ _).setAt (fun _ => by omega) _ _).setAt (fun _ => by omega) _ _).setAt (fun _ => by omega) _ _).setAt (fun _ => by omega) _ _).setAt (fun _ => by omega) _ _).setAt (fun _ => by omega) _ _).setAt (fun _ => by omega) _ _).setAt (fun _ => by omega) _ _) fun k hk e => by omega)
    have HWZ := hid hWZ
    clear hWZ
    go_wp2
    refine bodyPost_ret (v := .agg #[U8 3, .slice Ap np cp, .string KEY, .int .i64 0, .int .i64 0, .int .i64 0, U8 0, .int .i64 0, .string ⟨#[]⟩, .slice none 0 0, .slice none 0 0, .string ⟨#[]⟩]) (by simp [results, Tryd.results69, go_sem, d0, d1, d2, d3, d4, d5, d6, d7, d8, d9, d10, d11]) rfl ?_
    first | rw [HWZ.out] | (have e := HWZ.out; simp only [show ∀ x : Nat, x + 3 = x + 1 + 1 + 1 from fun _ => rfl] at e; rw [e])
    exact ⟨3, KEY, ZV, _, _, rfl, ⟨HKA.out, .inr ⟨rfl, HIS.out, rfl⟩⟩, Sl.nil _ _, Sl.nil _ _, ZV.svd, ZV.size_ok, HF.out⟩
   ·obtain rfl : r2 = 1 := by omega
    go_wp2_with fail
    refine (build_okD a.v _ _ X3 HV3.out).mono ?_
    rintro e X4 ⟨u, y, rfl, hsv, hys, hu, hE4⟩
    obtain ⟨lv, ov, rfl, hl, ho⟩ := hu
    obtain ⟨A5, m5, rfl, _⟩ := hl.shape
    obtain ⟨B5, k5, rfl, _⟩ := ho.shape
    have HLV := hid hl
    have HOV := hid ho
    have HSV := hid hsv
    have HYS := hid hys
    replace HX1 := hid (HX1.out.keep hE4 id)
    replace HR1 := hid (HR1.out.keep hE4 id)
    have HE4 := hid (HE3.out.ext hE4)
    have HS3 := hid (show w.heap.size + 4 ≤ X3.heap.size from HS3.out)
    clear hl ho hsv hys hE4 HE3 HV3 b1 b2 b6 x0 x1 x2 x3 x4 c0 d0 f0 g0 c1 d1 f1 g1 c2 d2 f2 g2 c3 d3 f3 g3 c4 d4 f4 g4 c5 d5 f5 g5 c6 d6 f6 g6 c7 d7 f7 g7 c8 d8 f8 g8 c9 d9 f9 g9 c10 d10 f10 g10 c11 d11 f11 g11
    obtain ⟨c0, c1, c2, c3, c4, c5, c6, c7, c8, c9, c10, c11⟩ := sq12 HX1.out
    obtain ⟨f0, f1, f2, f3, f4, f5, f6, f7, f8, f9, f10, f11⟩ := sqf12 HX1.out
    obtain ⟨d0, d1, d2, d3, d4, d5, d6, d7, d8, d9, d10, d11⟩ := sq12 HR1.out
    obtain ⟨g0, g1, g2, g3, g4, g5, g6, g7, g8, g9, g10, g11⟩ := sqf12 HR1.out
    obtain ⟨WZ, hWZ⟩ : ∃ WZ, (((((((((((((((((X4.setCell ⟨w.heap.size, 6, none⟩ (.int .u8 (y.kind.toNat : Int))).setCell ⟨w.heap.size, 7, none⟩ (.int .i64 y.n)).setCell ⟨w.heap.size, 8, none⟩ (.string y.s)).setCell ⟨w.heap.size, 9, none⟩ (.slice A5 y.l.length m5)).setCell ⟨w.heap.size, 10, none⟩ (.slice B5 y.o.length k5)).setCell ⟨w.heap.size + 3, 0, none⟩ (.int .u8 2)).setCell ⟨w.heap.size + 3, 1, none⟩ (.slice Ap np cp)).setCell ⟨w.heap.size + 3, 2, none⟩ (.string KEY)).setCell ⟨w.heap.size + 3, 3, none⟩ (.int .i64 0)).setCell ⟨w.heap.size + 3, 4, none⟩ (.int .i64 0)).setCell ⟨w.heap.size + 3, 5, none⟩ (.int .i64 0)).setCell ⟨w.heap.size + 3, 6, none⟩ (.int .u8 (y.kind.toNat : Int))).setCell ⟨w.heap.size + 3, 7, none⟩ (.int .i64 y.n)).setCell ⟨w.heap.size + 3, 8, none⟩ (.string y.s)).setCell ⟨w.heap.size + 3, 9, none⟩ (.slice A5 y.l.length m5)).setCell ⟨w.heap.size + 3, 10, none⟩ (.slice B5 y.o.length k5)).setCell ⟨w.heap.size + 3, 11, none⟩ (.string ⟨#[]⟩)) = WZ := ⟨_, rfl⟩
    have hkz : Keep (fun k => k = w.heap.size ∨ k = w.heap.size + 3) X4 WZ := by rw [← hWZ]; exact ((((((((((((((((((Keep.refl (fun k => k = w.heap.size ∨ k = w.heap.size + 3) X4).setAt (fun _ => by omega) _ _).setAt (fun _ => by omega) _ _).setAt (fun _ => by omega) _ _).setAt (fun _ => by omega) _ _).setAt (fun _ => by omega) _ _).setAt (fun _ => by omega) _ _).setAt (fun _ => by omega) _ _).setAt (fun _ => by omega) _ _).setAt (fun _ => by omega) _ _).setAt (fun _ => by omega) _ _).setAt (fun _ => by omega) _ _).setAt (fun _ => by omega) _ _).setAt (fun _ => by omega) _ _).setAt (fun _ => by omega) _ _).setAt (fun _ => by omega) _ _).setAt (fun _ => by omega) _ _).setAt (fun _ => by omega) _ _)
    have HF := hid (HE4.out.trans hkz fun k hk e => by omega)
    have HKZ := hid hkz
    have HWZ := hid hWZ
    clear hWZ hkz
    go_wp2
    refine bodyPost_ret (v := .agg #[U8 2, .slice Ap np cp, .string KEY, .int .i64 0, .int .i64 0, .int .i64 0, U8 y.kind, .int .i64 y.n, .string y.s, .slice A5 y.l.length m5, .slice B5 y.o.length k5, .string ⟨#[]⟩]) (by simp [results, Tryd.results69, go_sem, d0, d1, d2, d3, d4, d5, d6, d7, d8, d9, d10, d11]) rfl ?_
    first | rw [HWZ.out] | (have e := HWZ.out; simp only [show ∀ x : Nat, x + 3 = x + 1 + 1 + 1 from fun _ => rfl] at e; rw [e])
    have hs3 := HS3.out
    exact ⟨2, KEY, y, _, _, rfl, ⟨HKA.out, .inl rfl⟩, (HLV.out.keep EVal.ok HKZ.out fun k h e => by omega).more EVal.ok fun k _ h => by omega, (HOV.out.keep EField.ok HKZ.out fun k h e => by omega).more EField.ok fun k _ h => by omega, HSV.out, HYS.out, HF.out⟩
  ·have his : fieldIs x.o KEY = false := by simpa using his
   rw [his]
   go_wp2_with fail
   refine (build_okD a.v _ _ X3 HV3.out).mono ?_
   rintro e X4 ⟨u, y, rfl, hsv, hys, hu, hE4⟩
   obtain ⟨lv, ov, rfl, hl, ho⟩ := hu
   obtain ⟨A5, m5, rfl, _⟩ := hl.shape
   obtain ⟨B5, k5, rfl, _⟩ := ho.shape
   have HLV := hid hl
   have HOV := hid ho
   have HSV := hid hsv
   have HYS := hid hys
   replace HX1 := hid (HX1.out.keep hE4 id)
   replace HR1 := hid (HR1.out.keep hE4 id)
   have HE4 := hid (HE3.out.ext hE4)
   have HS3 := hid (show w.heap.size + 4 ≤ X3.heap.size from HS3.out)
   clear hl ho hsv hys hE4 HE3 HV3 b1 b2 b6 x0 x1 x2 x3 x4 c0 d0 f0 g0 c1 d1 f1 g1 c2 d2 f2 g2 c3 d3 f3 g3 c4 d4 f4 g4 c5 d5 f5 g5 c6 d6 f6 g6 c7 d7 f7 g7 c8 d8 f8 g8 c9 d9 f9 g9 c10 d10 f10 g10 c11 d11 f11 g11
   obtain ⟨c0, c1, c2, c3, c4, c5, c6, c7, c8, c9, c10, c11⟩ := sq12 HX1.out
   obtain ⟨f0, f1, f2, f3, f4, f5, f6, f7, f8, f9, f10, f11⟩ := sqf12 HX1.out
   obtain ⟨d0, d1, d2, d3, d4, d5, d6, d7, d8, d9, d10, d11⟩ := sq12 HR1.out
   obtain ⟨g0, g1, g2, g3, g4, g5, g6, g7, g8, g9, g10, g11⟩ := sqf12 HR1.out
   obtain ⟨WZ, hWZ⟩ : ∃ WZ, (((((((((((((((((X4.setCell ⟨w.heap.size, 6, none⟩ (.int .u8 (y.kind.toNat : Int))).setCell ⟨w.heap.size, 7, none⟩ (.int .i64 y.n)).setCell ⟨w.heap.size, 8, none⟩ (.string y.s)).setCell ⟨w.heap.size, 9, none⟩ (.slice A5 y.l.length m5)).setCell ⟨w.heap.size, 10, none⟩ (.slice B5 y.o.length k5)).setCell ⟨w.heap.size + 3, 0, none⟩ (.int .u8 2)).setCell ⟨w.heap.size + 3, 1, none⟩ (.slice Ap np cp)).setCell ⟨w.heap.size + 3, 2, none⟩ (.string KEY)).setCell ⟨w.heap.size + 3, 3, none⟩ (.int .i64 0)).setCell ⟨w.heap.size + 3, 4, none⟩ (.int .i64 0)).setCell ⟨w.heap.size + 3, 5, none⟩ (.int .i64 0)).setCell ⟨w.heap.size + 3, 6, none⟩ (.int .u8 (y.kind.toNat : Int))).setCell ⟨w.heap.size + 3, 7, none⟩ (.int .i64 y.n)).setCell ⟨w.heap.size + 3, 8, none⟩ (.string y.s)).setCell ⟨w.heap.size + 3, 9, none⟩ (.slice A5 y.l.length m5)).setCell ⟨w.heap.size + 3, 10, none⟩ (.slice B5 y.o.length k5)).setCell ⟨w.heap.size + 3, 11, none⟩ (.string ⟨#[]⟩)) = WZ := ⟨_, rfl⟩
   have hkz : Keep (fun k => k = w.heap.size ∨ k = w.heap.size + 3) X4 WZ := by rw [← hWZ]; exact ((((((((((((((((((Keep.refl (fun k => k = w.heap.size ∨ k = w.heap.size + 3) X4).setAt (fun _ => by omega) _ _).setAt (fun _ => by omega) _ _).setAt (fun _ => by omega) _ _).setAt (fun _ => by omega) _ _).setAt (fun _ => by omega) _ _).setAt (fun _ => by omega) _ _).setAt (fun _ => by omega) _ _).setAt (fun _ => by omega) _ _).setAt (fun _ => by omega) _ _).setAt (fun _ => by omega) _ _).setAt (fun _ => by omega) _ _).setAt (fun _ => by omega) _ _).setAt (fun _ => by omega) _ _).setAt (fun _ => by omega) _ _).setAt (fun _ => by omega) _ _).setAt (fun _ => by omega) _ _).setAt (fun _ => by omega) _ _)
   have HF := hid (HE4.out.trans hkz fun k hk e => by omega)
   have HKZ := hid hkz
   have HWZ := hid hWZ
   clear hWZ hkz
   go_wp2
   refine bodyPost_ret (v := .agg #[U8 2, .slice Ap np cp, .string KEY, .int .i64 0, .int .i64 0, .int .i64 0, U8 y.kind, .int .i64 y.n, .string y.s, .slice A5 y.l.length m5, .slice B5 y.o.length k5, .string ⟨#[]⟩]) (by simp [results, Tryd.results69, go_sem, d0, d1, d2, d3, d4, d5, d6, d7, d8, d9, d10, d11]) rfl ?_
   first | rw [HWZ.out] | (have e := HWZ.out; simp only [show ∀ x : Nat, x + 3 = x + 1 + 1 + 1 from fun _ => rfl] at e; rw [e])
   have hs3 := HS3.out
   exact ⟨2, KEY, y, _, _, rfl, ⟨HKA.out, .inl rfl⟩, (HLV.out.keep EVal.ok HKZ.out fun k h e => by omega).more EVal.ok fun k _ h => by omega, (HOV.out.keep EField.ok HKZ.out fun k h e => by omega).more EField.ok fun k _ h => by omega, HSV.out, HYS.out, HF.out⟩
end Go.Proofs.YtggkidnlmaindaaDoor
