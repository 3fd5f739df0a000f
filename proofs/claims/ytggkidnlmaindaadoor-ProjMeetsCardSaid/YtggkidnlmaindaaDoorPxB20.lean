/- TurnC: laid together. -/
import Derived.Test.YtggkidnlmaindaaDoorPxB18
import Derived.Test.YtggkidnlmaindaaDoorPxB19
set_option linter.unusedSimpArgs false
set_option linter.unusedVariables false
set_option maxHeartbeats 25600000
set_option maxRecDepth 20000
namespace Go.Proofs.YtggkidnlmaindaaDoor
open Go.RowKit
abbrev ZV : V := .mk 0 0 ⟨#[]⟩ [] []
theorem ZV.sv : SV ZV := (SV_iff _).2 ⟨.inl ⟨rfl, rfl, rfl, rfl, rfl⟩, trivial, trivial, trivial⟩
theorem ZV.svd : SVd 0 ZV := ⟨ZV.sv, by simp [V.deep, V.deeps, F.deeps], by rw [VStr]; exact ⟨Nat.zero_le _, by rw [VStrs]; trivial, by rw [FStrs]; trivial⟩⟩
theorem ZV.size_ok : ZV.size ≤ 241 := by simp [V.size, V.sizes, F.sizes]
def ListOk (n : Nat) (k : UInt8) (i j : Int) (v : V) : Prop :=
 ∃ q : Nat, i = q ∧ ((k = 4 ∧ q ≤ n ∧ j = 0) ∨ (k = 5 ∧ q < n ∧ j = 0 ∧ v = ZV) ∨ (k = 6 ∧ q < n ∧ j = 0) ∨ (k = 7 ∧ q < n ∧ v = ZV ∧ ∃ r : Nat, j = r ∧ r < n))
def List6Is (n : Nat) (pv : Value) (w : World) (e : Ending) (w' : World) : Prop :=
 ∃ (k : UInt8) (i j : Int) (v : V) (lv ov : Value), e = .returned (.agg #[U8 k, pv, .string ⟨#[]⟩, .int .i64 i, .int .i64 j, .int .i64 0, U8 v.kind, .int .i64 v.n, .string v.s, lv, ov, .string ⟨#[]⟩]) ∧ ListOk n k i j v ∧ Sl EVal w' (fun q => w.heap.size ≤ q) lv v.l ∧ Sl EField w' (fun q => w.heap.size ≤ q) ov v.o ∧ SVd 0 v ∧ v.size ≤ 241 ∧ Ext w w'
theorem list6_z (w : World) (S : BS) (pv av : Value) (a : Ac) (n : Nat) (hn : n ≤ 100000) (h0 : n = 0) (ha : AAt w S av a) (hwi : (Lit.int .i64 a.i).wf = true) (hwj : (Lit.int .i64 a.j).wf = true) (hpv : ∃ A n c, pv = .slice A n c) :
  Calls Tryd.prog 68 #[.agg #[.int .u8 0, pv, .string ⟨#[]⟩, .int .i64 0, .int .i64 0, .int .i64 0, .int .u8 0, .int .i64 0, .string ⟨#[]⟩, .slice none 0 0, .slice none 0 0, .string ⟨#[]⟩], av, .int .i64 (n : Int)] w (List6Is n pv w) := by
 obtain ⟨ap, vv, rfl, hap, hvv⟩ := ha
 obtain ⟨Aa, ca, rfl, _⟩ := hap.shape
 obtain ⟨Av, cv, rfl, _⟩ := hvv.shape
 obtain ⟨Ap, np, cp, rfl⟩ := hpv
 obtain ⟨W, hW⟩ : ∃ W, ((w.alloc (.cells #[.int .u8 0, .slice Ap np cp, .string ⟨#[]⟩, .int .i64 0, .int .i64 0, .int .i64 0, .int .u8 0, .int .i64 0, .string ⟨#[]⟩, .slice none 0 0, .slice none 0 0, .string ⟨#[]⟩] TCMP)).alloc (.cells (acCells a (.slice Aa a.path.length ca) (.slice Av a.v.length cv)) TACT)).alloc (.cells ZCMP TCMP) = W := ⟨_, rfl⟩
 have hE : Ext w W := by rw [← hW]; exact (((Keep.refl _ _).alloc _).alloc _).alloc _
 have hsz : W.heap.size = w.heap.size + 3 := by rw [← hW]; simp
 have hc : Blk W w.heap.size TCMP #[.int .u8 0, .slice Ap np cp, .string ⟨#[]⟩, .int .i64 0, .int .i64 0, .int .i64 0, .int .u8 0, .int .i64 0, .string ⟨#[]⟩, .slice none 0 0, .slice none 0 0, .string ⟨#[]⟩] := by rw [← hW]; exact ((Blk.new _ _ _).alloc _).alloc _
 have hb : Blk W (w.heap.size + 1) TACT (acCells a (.slice Aa a.path.length ca) (.slice Av a.v.length cv)) := by
  have := (Blk.new (w.alloc (.cells #[.int .u8 0, .slice Ap np cp, .string ⟨#[]⟩, .int .i64 0, .int .i64 0, .int .i64 0, .int .u8 0, .int .i64 0, .string ⟨#[]⟩, .slice none 0 0, .slice none 0 0, .string ⟨#[]⟩] TCMP)) TACT (acCells a (.slice Aa a.path.length ca) (.slice Av a.v.length cv))).alloc (.cells ZCMP TCMP)
  rw [World.size_alloc, hW] at this
  exact this
 have hr : Blk W (w.heap.size + 2) TCMP ZCMP := by
  have := Blk.new ((w.alloc (.cells #[.int .u8 0, .slice Ap np cp, .string ⟨#[]⟩, .int .i64 0, .int .i64 0, .int .i64 0, .int .u8 0, .int .i64 0, .string ⟨#[]⟩, .slice none 0 0, .slice none 0 0, .string ⟨#[]⟩] TCMP)).alloc (.cells (acCells a (.slice Aa a.path.length ca) (.slice Av a.v.length cv)) TACT)) TCMP ZCMP
  rw [World.size_alloc, World.size_alloc, hW] at this
  exact this
 obtain ⟨i0, hi0, hi0m⟩ := run_max0 a.i hwi
 obtain ⟨j0, hj0, hj0m⟩ := run_max0 a.j hwj
 subst h0
 obtain ⟨r4, hr4⟩ : ∃ r4, a.kind.toNat % 4 = r4 := ⟨_, rfl⟩
 have hr44 : r4 < 4 := by rw [← hr4]; exact Nat.mod_lt _ (by decide)
 have hkz : ((a.kind.toNat : Int)).tmod 4 = (r4 : Int) := by rw [Int.tmod_eq_emod_of_nonneg (by omega)]; omega
 have hkz2 : (a.kind.toNat : Int) % 4 = (r4 : Int) := by omega
 have hkw : IntKind.u8.wrap (4 + (r4 : Int)) = 4 + (r4 : Int) := by
  have : r4 = 0 ∨ r4 = 1 ∨ r4 = 2 ∨ r4 = 3 := by omega
  rcases this with rfl | rfl | rfl | rfl <;> rfl
 obtain ⟨q, hq0⟩ : ∃ q : Nat, q = 0 := ⟨0, rfl⟩
 have hQ : ((i0 : Int)).tmod 1 = (q : Int) := by rw [hq0]; simp [Int.tmod_one]
 have hQ' : (i0 : Int) % 1 = (q : Int) := by omega
 have HQN := hid (show q ≤ 0 from by omega)
 clear hq0
 have b1 := hb.cell 1
 have b2 := hb.cell 2
 have b3 := hb.cell 3
 have b6 := hb.cell 6
 obtain ⟨c0, c1, c2, c3, c4, c5, c6, c7, c8, c9, c10, c11⟩ := sq12 hc
 obtain ⟨f0, f1, f2, f3, f4, f5, f6, f7, f8, f9, f10, f11⟩ := sqf12 hc
 obtain ⟨d0, d1, d2, d3, d4, d5, d6, d7, d8, d9, d10, d11⟩ := sq12 hr
 obtain ⟨g0, g1, g2, g3, g4, g5, g6, g7, g8, g9, g10, g11⟩ := sqf12 hr
 simp at b1 b2 b3 b6
 have HC := hid hc
 have HB := hid hb
 have HR := hid hr
 have HE := hid hE
 have HVV := hid hvv
 clear hap hvv hc hb hr hE
 obtain ⟨X1, hX1⟩ : ∃ X1, (((W.setCell ⟨w.heap.size, 0, none⟩ (.int .u8 (4 + (r4 : Int)))).setCell ⟨w.heap.size, 0, none⟩ (.int .u8 4)).setCell ⟨w.heap.size, 3, none⟩ (.int .i64 (q : Int))) = X1 := ⟨_, rfl⟩
 have hk1 : Keep (· = w.heap.size) W X1 := by rw [← hX1]; exact ((((Keep.refl (· = w.heap.size) W).set1 0 _).set1 0 _).set1 3 _)
 have hx1 : Blk X1 w.heap.size TCMP #[.int .u8 4, .slice Ap np cp, .string ⟨#[]⟩, .int .i64 (q : Int), .int .i64 0, .int .i64 0, .int .u8 0, .int .i64 0, .string ⟨#[]⟩, .slice none 0 0, .slice none 0 0, .string ⟨#[]⟩] := by rw [← hX1]; exact (((HC.out.set_ 0 (.int .u8 (4 + (r4 : Int)))).set_ 0 (.int .u8 4)).set_ 3 (.int .i64 (q : Int)))
 have HX1 := hid hx1
 have HXE := hid hX1
 have HR1 := hid (HR.out.keep hk1 (by omega))
 have HE1 := hid (HE.out.trans hk1 fun k hk e => by omega)
 have HV1 := hid (((HVV.out.more (S' := fun k => k < w.heap.size) ETok.ok fun k h _ => h).ext ETok.ok HE.out).keep ETok.ok hk1 fun k h e => by omega)
 clear hX1 hk1 hx1
 go_enter Tryd.func68, Tryd.ntmps68
 go_wp2_with fail
 rw [HXE.out]
 refine (build_okD a.v _ _ X1 HV1.out).mono ?_
 rintro e X2 ⟨u, x, rfl, hsv, hxs, hu, hE2⟩
 obtain ⟨lv, ov, rfl, hl, ho⟩ := hu
 obtain ⟨A5, m5, rfl, _⟩ := hl.shape
 obtain ⟨B5, k5, rfl, _⟩ := ho.shape
 have HLV := hid hl
 have HOV := hid ho
 have HSV := hid hsv
 have HXS := hid hxs
 replace HX1 := hid (HX1.out.keep hE2 id)
 replace HR1 := hid (HR1.out.keep hE2 id)
 have HE2 := hid (HE1.out.ext hE2)
 have hs2 := hE2.size
 have hs1 : w.heap.size + 3 ≤ X1.heap.size := by have := HE1.out.size; rw [← HXE.out]; simp; omega
 have HS1 := hid hs1
 clear hl ho hsv hxs hE2 HXE HE1 HC HB HR HE HVV HV1 hs2 hs1 b1 b2 b3 b6 c0 d0 f0 g0 c1 d1 f1 g1 c2 d2 f2 g2 c3 d3 f3 g3 c4 d4 f4 g4 c5 d5 f5 g5 c6 d6 f6 g6 c7 d7 f7 g7 c8 d8 f8 g8 c9 d9 f9 g9 c10 d10 f10 g10 c11 d11 f11 g11
 obtain ⟨c0, c1, c2, c3, c4, c5, c6, c7, c8, c9, c10, c11⟩ := sq12 HX1.out
 obtain ⟨f0, f1, f2, f3, f4, f5, f6, f7, f8, f9, f10, f11⟩ := sqf12 HX1.out
 obtain ⟨d0, d1, d2, d3, d4, d5, d6, d7, d8, d9, d10, d11⟩ := sq12 HR1.out
 obtain ⟨g0, g1, g2, g3, g4, g5, g6, g7, g8, g9, g10, g11⟩ := sqf12 HR1.out
 obtain ⟨WZ, hWZ⟩ : ∃ WZ, (((((((((((((((((X2.setCell ⟨w.heap.size, 6, none⟩ (.int .u8 (x.kind.toNat : Int))).setCell ⟨w.heap.size, 7, none⟩ (.int .i64 x.n)).setCell ⟨w.heap.size, 8, none⟩ (.string x.s)).setCell ⟨w.heap.size, 9, none⟩ (.slice A5 x.l.length m5)).setCell ⟨w.heap.size, 10, none⟩ (.slice B5 x.o.length k5)).setCell ⟨w.heap.size + 2, 0, none⟩ (.int .u8 4)).setCell ⟨w.heap.size + 2, 1, none⟩ (.slice Ap np cp)).setCell ⟨w.heap.size + 2, 2, none⟩ (.string ⟨#[]⟩)).setCell ⟨w.heap.size + 2, 3, none⟩ (.int .i64 (q : Int))).setCell ⟨w.heap.size + 2, 4, none⟩ (.int .i64 0)).setCell ⟨w.heap.size + 2, 5, none⟩ (.int .i64 0)).setCell ⟨w.heap.size + 2, 6, none⟩ (.int .u8 (x.kind.toNat : Int))).setCell ⟨w.heap.size + 2, 7, none⟩ (.int .i64 x.n)).setCell ⟨w.heap.size + 2, 8, none⟩ (.string x.s)).setCell ⟨w.heap.size + 2, 9, none⟩ (.slice A5 x.l.length m5)).setCell ⟨w.heap.size + 2, 10, none⟩ (.slice B5 x.o.length k5)).setCell ⟨w.heap.size + 2, 11, none⟩ (.string ⟨#[]⟩)) = WZ := ⟨_, rfl⟩
 have hkz : Keep (fun k => k = w.heap.size ∨ k = w.heap.size + 2) X2 WZ := by rw [← hWZ]; exact ((((((((((((((((((Keep.refl (fun k => k = w.heap.size ∨ k = w.heap.size + 2) X2).setAt (fun _ => by omega) _ _).setAt (fun _ => by omega) _ _).setAt (fun _ => by omega) _ _).setAt (fun _ => by omega) _ _).setAt (fun _ => by omega) _ _).setAt (fun _ => by omega) _ _).setAt (fun _ => by omega) _ _).setAt (fun _ => by omega) _ _).setAt (fun _ => by omega) _ _).setAt (fun _ => by omega) _ _).setAt (fun _ => by omega) _ _).setAt (fun _ => by omega) _ _).setAt (fun _ => by omega) _ _).setAt (fun _ => by omega) _ _).setAt (fun _ => by omega) _ _).setAt (fun _ => by omega) _ _).setAt (fun _ => by omega) _ _)
 have HF := hid (HE2.out.trans hkz fun k hk e => by omega)
 have HKZ := hid hkz
 have HWZ := hid hWZ
 clear hWZ hkz
 go_wp2
 refine bodyPost_ret (v := .agg #[U8 4, .slice Ap np cp, .string ⟨#[]⟩, .int .i64 (q : Int), .int .i64 0, .int .i64 0, U8 x.kind, .int .i64 x.n, .string x.s, .slice A5 x.l.length m5, .slice B5 x.o.length k5, .string ⟨#[]⟩]) (by simp [results, Tryd.results68, go_sem, d0, d1, d2, d3, d4, d5, d6, d7, d8, d9, d10, d11]) rfl ?_
 first | rw [HWZ.out] | (have e := HWZ.out; simp only [show ∀ x : Nat, x + 2 = x + 1 + 1 from fun _ => rfl] at e; rw [e])
 have hs1 := HS1.out
 exact ⟨4, (q : Int), 0, x, _, _, rfl, ⟨q, rfl, .inl ⟨rfl, HQN.out, rfl⟩⟩, (HLV.out.keep EVal.ok HKZ.out fun k h e => by omega).more EVal.ok fun k _ h => by omega, (HOV.out.keep EField.ok HKZ.out fun k h e => by omega).more EField.ok fun k _ h => by omega, HSV.out, HXS.out, HF.out⟩
theorem list6_4 (w : World) (S : BS) (pv av : Value) (a : Ac) (n : Nat) (hn : n ≤ 100000) (h0 : 0 < n) (hr4 : a.kind.toNat % 4 = 0) (ha : AAt w S av a) (hwi : (Lit.int .i64 a.i).wf = true) (hwj : (Lit.int .i64 a.j).wf = true) (hpv : ∃ A n c, pv = .slice A n c) :
  Calls Tryd.prog 68 #[.agg #[.int .u8 0, pv, .string ⟨#[]⟩, .int .i64 0, .int .i64 0, .int .i64 0, .int .u8 0, .int .i64 0, .string ⟨#[]⟩, .slice none 0 0, .slice none 0 0, .string ⟨#[]⟩], av, .int .i64 (n : Int)] w (List6Is n pv w) := by
 obtain ⟨ap, vv, rfl, hap, hvv⟩ := ha
 obtain ⟨Aa, ca, rfl, _⟩ := hap.shape
 obtain ⟨Av, cv, rfl, _⟩ := hvv.shape
 obtain ⟨Ap, np, cp, rfl⟩ := hpv
 obtain ⟨W, hW⟩ : ∃ W, ((w.alloc (.cells #[.int .u8 0, .slice Ap np cp, .string ⟨#[]⟩, .int .i64 0, .int .i64 0, .int .i64 0, .int .u8 0, .int .i64 0, .string ⟨#[]⟩, .slice none 0 0, .slice none 0 0, .string ⟨#[]⟩] TCMP)).alloc (.cells (acCells a (.slice Aa a.path.length ca) (.slice Av a.v.length cv)) TACT)).alloc (.cells ZCMP TCMP) = W := ⟨_, rfl⟩
 have hE : Ext w W := by rw [← hW]; exact (((Keep.refl _ _).alloc _).alloc _).alloc _
 have hsz : W.heap.size = w.heap.size + 3 := by rw [← hW]; simp
 have hc : Blk W w.heap.size TCMP #[.int .u8 0, .slice Ap np cp, .string ⟨#[]⟩, .int .i64 0, .int .i64 0, .int .i64 0, .int .u8 0, .int .i64 0, .string ⟨#[]⟩, .slice none 0 0, .slice none 0 0, .string ⟨#[]⟩] := by rw [← hW]; exact ((Blk.new _ _ _).alloc _).alloc _
 have hb : Blk W (w.heap.size + 1) TACT (acCells a (.slice Aa a.path.length ca) (.slice Av a.v.length cv)) := by
  have := (Blk.new (w.alloc (.cells #[.int .u8 0, .slice Ap np cp, .string ⟨#[]⟩, .int .i64 0, .int .i64 0, .int .i64 0, .int .u8 0, .int .i64 0, .string ⟨#[]⟩, .slice none 0 0, .slice none 0 0, .string ⟨#[]⟩] TCMP)) TACT (acCells a (.slice Aa a.path.length ca) (.slice Av a.v.length cv))).alloc (.cells ZCMP TCMP)
  rw [World.size_alloc, hW] at this
  exact this
 have hr : Blk W (w.heap.size + 2) TCMP ZCMP := by
  have := Blk.new ((w.alloc (.cells #[.int .u8 0, .slice Ap np cp, .string ⟨#[]⟩, .int .i64 0, .int .i64 0, .int .i64 0, .int .u8 0, .int .i64 0, .string ⟨#[]⟩, .slice none 0 0, .slice none 0 0, .string ⟨#[]⟩] TCMP)).alloc (.cells (acCells a (.slice Aa a.path.length ca) (.slice Av a.v.length cv)) TACT)) TCMP ZCMP
  rw [World.size_alloc, World.size_alloc, hW] at this
  exact this
 obtain ⟨i0, hi0, hi0m⟩ := run_max0 a.i hwi
 obtain ⟨j0, hj0, hj0m⟩ := run_max0 a.j hwj
 have hkz : ((a.kind.toNat : Int)).tmod 4 = 0 := by rw [Int.tmod_eq_emod_of_nonneg (by omega)]; omega
 have hkz2 : (a.kind.toNat : Int) % 4 = 0 := by omega
 have hnz : ¬ (n : Int) = 0 := by omega
 have hnz2 : ((n : Int) == 0) = false := by simpa using hnz
 have hQ : ((i0 : Int)).tmod ((n : Int) + 1) = ((i0 % (n + 1) : Nat) : Int) := by rw [← Int.natCast_succ, ← Int.ofNat_tmod]
 obtain ⟨q, hq⟩ : ∃ q, i0 % (n + 1) = q := ⟨_, rfl⟩
 have hqn : q ≤ n := by have : i0 % (n + 1) < n + 1 := Nat.mod_lt _ (by omega); omega
 rw [hq] at hQ
 have b1 := hb.cell 1
 have b2 := hb.cell 2
 have b3 := hb.cell 3
 have b6 := hb.cell 6
 obtain ⟨c0, c1, c2, c3, c4, c5, c6, c7, c8, c9, c10, c11⟩ := sq12 hc
 obtain ⟨f0, f1, f2, f3, f4, f5, f6, f7, f8, f9, f10, f11⟩ := sqf12 hc
 obtain ⟨d0, d1, d2, d3, d4, d5, d6, d7, d8, d9, d10, d11⟩ := sq12 hr
 obtain ⟨g0, g1, g2, g3, g4, g5, g6, g7, g8, g9, g10, g11⟩ := sqf12 hr
 simp at b1 b2 b3 b6
 have HC := hid hc
 have HB := hid hb
 have HR := hid hr
 have HE := hid hE
 have HVV := hid hvv
 clear hap hvv hc hb hr hE
 obtain ⟨X1, hX1⟩ : ∃ X1, ((W.setCell ⟨w.heap.size, 0, none⟩ (.int .u8 4)).setCell ⟨w.heap.size, 3, none⟩ (.int .i64 (q : Int))) = X1 := ⟨_, rfl⟩
 have hk1 : Keep (· = w.heap.size) W X1 := by rw [← hX1]; exact (((Keep.refl (· = w.heap.size) W).set1 0 _).set1 3 _)
 have hx1 : Blk X1 w.heap.size TCMP #[.int .u8 4, .slice Ap np cp, .string ⟨#[]⟩, .int .i64 (q : Int), .int .i64 0, .int .i64 0, .int .u8 0, .int .i64 0, .string ⟨#[]⟩, .slice none 0 0, .slice none 0 0, .string ⟨#[]⟩] := by rw [← hX1]; exact ((HC.out.set_ 0 (.int .u8 4)).set_ 3 (.int .i64 (q : Int)))
 have HX1 := hid hx1
 have HXE := hid hX1
 have HR1 := hid (HR.out.keep hk1 (by omega))
 have HE1 := hid (HE.out.trans hk1 fun k hk e => by omega)
 have HV1 := hid (((HVV.out.more (S' := fun k => k < w.heap.size) ETok.ok fun k h _ => h).ext ETok.ok HE.out).keep ETok.ok hk1 fun k h e => by omega)
 clear hX1 hk1 hx1
 go_enter Tryd.func68, Tryd.ntmps68
 go_wp2_with fail
 rw [HXE.out]
 refine (build_okD a.v _ _ X1 HV1.out).mono ?_
 rintro e X2 ⟨u, x, rfl, hsv, hxs, hu, hE2⟩
 obtain ⟨lv, ov, rfl, hl, ho⟩ := hu
 obtain ⟨A5, m5, rfl, _⟩ := hl.shape
 obtain ⟨B5, k5, rfl, _⟩ := ho.shape
 have HLV := hid hl
 have HOV := hid ho
 have HSV := hid hsv
 have HXS := hid hxs
 replace HX1 := hid (HX1.out.keep hE2 id)
 replace HR1 := hid (HR1.out.keep hE2 id)
 have HE2 := hid (HE1.out.ext hE2)
 have hs2 := hE2.size
 have hs1 : w.heap.size + 3 ≤ X1.heap.size := by have := HE1.out.size; rw [← HXE.out]; simp; omega
 have HS1 := hid hs1
 clear hl ho hsv hxs hE2 HXE HE1 HC HB HR HE HVV HV1 hs2 hs1 b1 b2 b3 b6 c0 d0 f0 g0 c1 d1 f1 g1 c2 d2 f2 g2 c3 d3 f3 g3 c4 d4 f4 g4 c5 d5 f5 g5 c6 d6 f6 g6 c7 d7 f7 g7 c8 d8 f8 g8 c9 d9 f9 g9 c10 d10 f10 g10 c11 d11 f11 g11
 obtain ⟨c0, c1, c2, c3, c4, c5, c6, c7, c8, c9, c10, c11⟩ := sq12 HX1.out
 obtain ⟨f0, f1, f2, f3, f4, f5, f6, f7, f8, f9, f10, f11⟩ := sqf12 HX1.out
 obtain ⟨d0, d1, d2, d3, d4, d5, d6, d7, d8, d9, d10, d11⟩ := sq12 HR1.out
 obtain ⟨g0, g1, g2, g3, g4, g5, g6, g7, g8, g9, g10, g11⟩ := sqf12 HR1.out
 obtain ⟨WZ, hWZ⟩ : ∃ WZ, (((((((((((((((((X2.setCell ⟨w.heap.size, 6, none⟩ (.int .u8 (x.kind.toNat : Int))).setCell ⟨w.heap.size, 7, none⟩ (.int .i64 x.n)).setCell ⟨w.heap.size, 8, none⟩ (.string x.s)).setCell ⟨w.heap.size, 9, none⟩ (.slice A5 x.l.length m5)).setCell ⟨w.heap.size, 10, none⟩ (.slice B5 x.o.length k5)).setCell ⟨w.heap.size + 2, 0, none⟩ (.int .u8 4)).setCell ⟨w.heap.size + 2, 1, none⟩ (.slice Ap np cp)).setCell ⟨w.heap.size + 2, 2, none⟩ (.string ⟨#[]⟩)).setCell ⟨w.heap.size + 2, 3, none⟩ (.int .i64 (q : Int))).setCell ⟨w.heap.size + 2, 4, none⟩ (.int .i64 0)).setCell ⟨w.heap.size + 2, 5, none⟩ (.int .i64 0)).setCell ⟨w.heap.size + 2, 6, none⟩ (.int .u8 (x.kind.toNat : Int))).setCell ⟨w.heap.size + 2, 7, none⟩ (.int .i64 x.n)).setCell ⟨w.heap.size + 2, 8, none⟩ (.string x.s)).setCell ⟨w.heap.size + 2, 9, none⟩ (.slice A5 x.l.length m5)).setCell ⟨w.heap.size + 2, 10, none⟩ (.slice B5 x.o.length k5)).setCell ⟨w.heap.size + 2, 11, none⟩ (.string ⟨#[]⟩)) = WZ := ⟨_, rfl⟩
 have hkz : Keep (fun k => k = w.heap.size ∨ k = w.heap.size + 2) X2 WZ := by rw [← hWZ]; exact ((((((((((((((((((Keep.refl (fun k => k = w.heap.size ∨ k = w.heap.size + 2) X2).setAt (fun _ => by omega) _ _).setAt (fun _ => by omega) _ _).setAt (fun _ => by omega) _ _).setAt (fun _ => by omega) _ _).setAt (fun _ => by omega) _ _).setAt (fun _ => by omega) _ _).setAt (fun _ => by omega) _ _).setAt (fun _ => by omega) _ _).setAt (fun _ => by omega) _ _).setAt (fun _ => by omega) _ _).setAt (fun _ => by omega) _ _).setAt (fun _ => by omega) _ _).setAt (fun _ => by omega) _ _).setAt (fun _ => by omega) _ _).setAt (fun _ => by omega) _ _).setAt (fun _ => by omega) _ _).setAt (fun _ => by omega) _ _)
 have HF := hid (HE2.out.trans hkz fun k hk e => by omega)
 have HKZ := hid hkz
 have HWZ := hid hWZ
 clear hWZ hkz
 go_wp2
 refine bodyPost_ret (v := .agg #[U8 4, .slice Ap np cp, .string ⟨#[]⟩, .int .i64 (q : Int), .int .i64 0, .int .i64 0, U8 x.kind, .int .i64 x.n, .string x.s, .slice A5 x.l.length m5, .slice B5 x.o.length k5, .string ⟨#[]⟩]) (by simp [results, Tryd.results68, go_sem, d0, d1, d2, d3, d4, d5, d6, d7, d8, d9, d10, d11]) rfl ?_
 first | rw [HWZ.out] | (have e := HWZ.out; simp only [show ∀ x : Nat, x + 2 = x + 1 + 1 from fun _ => rfl] at e; rw [e])
 have hs1 := HS1.out
 exact ⟨4, (q : Int), 0, x, _, _, rfl, ⟨q, rfl, .inl ⟨rfl, hqn, rfl⟩⟩, (HLV.out.keep EVal.ok HKZ.out fun k h e => by omega).more EVal.ok fun k _ h => by omega, (HOV.out.keep EField.ok HKZ.out fun k h e => by omega).more EField.ok fun k _ h => by omega, HSV.out, HXS.out, HF.out⟩
theorem list6_5 (w : World) (S : BS) (pv av : Value) (a : Ac) (n : Nat) (hn : n ≤ 100000) (h0 : 0 < n) (hr4 : a.kind.toNat % 4 = 1) (ha : AAt w S av a) (hwi : (Lit.int .i64 a.i).wf = true) (hwj : (Lit.int .i64 a.j).wf = true) (hpv : ∃ A n c, pv = .slice A n c) :
  Calls Tryd.prog 68 #[.agg #[.int .u8 0, pv, .string ⟨#[]⟩, .int .i64 0, .int .i64 0, .int .i64 0, .int .u8 0, .int .i64 0, .string ⟨#[]⟩, .slice none 0 0, .slice none 0 0, .string ⟨#[]⟩], av, .int .i64 (n : Int)] w (List6Is n pv w) := by
 obtain ⟨ap, vv, rfl, hap, hvv⟩ := ha
 obtain ⟨Aa, ca, rfl, _⟩ := hap.shape
 obtain ⟨Av, cv, rfl, _⟩ := hvv.shape
 obtain ⟨Ap, np, cp, rfl⟩ := hpv
 obtain ⟨W, hW⟩ : ∃ W, ((w.alloc (.cells #[.int .u8 0, .slice Ap np cp, .string ⟨#[]⟩, .int .i64 0, .int .i64 0, .int .i64 0, .int .u8 0, .int .i64 0, .string ⟨#[]⟩, .slice none 0 0, .slice none 0 0, .string ⟨#[]⟩] TCMP)).alloc (.cells (acCells a (.slice Aa a.path.length ca) (.slice Av a.v.length cv)) TACT)).alloc (.cells ZCMP TCMP) = W := ⟨_, rfl⟩
 have hE : Ext w W := by rw [← hW]; exact (((Keep.refl _ _).alloc _).alloc _).alloc _
 have hsz : W.heap.size = w.heap.size + 3 := by rw [← hW]; simp
 have hc : Blk W w.heap.size TCMP #[.int .u8 0, .slice Ap np cp, .string ⟨#[]⟩, .int .i64 0, .int .i64 0, .int .i64 0, .int .u8 0, .int .i64 0, .string ⟨#[]⟩, .slice none 0 0, .slice none 0 0, .string ⟨#[]⟩] := by rw [← hW]; exact ((Blk.new _ _ _).alloc _).alloc _
 have hb : Blk W (w.heap.size + 1) TACT (acCells a (.slice Aa a.path.length ca) (.slice Av a.v.length cv)) := by
  have := (Blk.new (w.alloc (.cells #[.int .u8 0, .slice Ap np cp, .string ⟨#[]⟩, .int .i64 0, .int .i64 0, .int .i64 0, .int .u8 0, .int .i64 0, .string ⟨#[]⟩, .slice none 0 0, .slice none 0 0, .string ⟨#[]⟩] TCMP)) TACT (acCells a (.slice Aa a.path.length ca) (.slice Av a.v.length cv))).alloc (.cells ZCMP TCMP)
  rw [World.size_alloc, hW] at this
  exact this
 have hr : Blk W (w.heap.size + 2) TCMP ZCMP := by
  have := Blk.new ((w.alloc (.cells #[.int .u8 0, .slice Ap np cp, .string ⟨#[]⟩, .int .i64 0, .int .i64 0, .int .i64 0, .int .u8 0, .int .i64 0, .string ⟨#[]⟩, .slice none 0 0, .slice none 0 0, .string ⟨#[]⟩] TCMP)).alloc (.cells (acCells a (.slice Aa a.path.length ca) (.slice Av a.v.length cv)) TACT)) TCMP ZCMP
  rw [World.size_alloc, World.size_alloc, hW] at this
  exact this
 obtain ⟨i0, hi0, hi0m⟩ := run_max0 a.i hwi
 obtain ⟨j0, hj0, hj0m⟩ := run_max0 a.j hwj
 have hkz : ((a.kind.toNat : Int)).tmod 4 = 1 := by rw [Int.tmod_eq_emod_of_nonneg (by omega)]; omega
 have hkz2 : (a.kind.toNat : Int) % 4 = 1 := by omega
 have hnz : ¬ (n : Int) = 0 := by omega
 have hnz2 : ((n : Int) == 0) = false := by simpa using hnz
 have hQ : ((i0 : Int)).tmod (n : Int) = ((i0 % n : Nat) : Int) := by rw [← Int.ofNat_tmod]
 obtain ⟨q, hq⟩ : ∃ q, i0 % n = q := ⟨_, rfl⟩
 have hqn : q < n := by have : i0 % n < n := Nat.mod_lt _ h0; omega
 rw [hq] at hQ
 have b1 := hb.cell 1
 have b2 := hb.cell 2
 have b3 := hb.cell 3
 have b6 := hb.cell 6
 obtain ⟨c0, c1, c2, c3, c4, c5, c6, c7, c8, c9, c10, c11⟩ := sq12 hc
 obtain ⟨f0, f1, f2, f3, f4, f5, f6, f7, f8, f9, f10, f11⟩ := sqf12 hc
 obtain ⟨d0, d1, d2, d3, d4, d5, d6, d7, d8, d9, d10, d11⟩ := sq12 hr
 obtain ⟨g0, g1, g2, g3, g4, g5, g6, g7, g8, g9, g10, g11⟩ := sqf12 hr
 simp at b1 b2 b3 b6
 have HC := hid hc
 have HB := hid hb
 have HR := hid hr
 have HE := hid hE
 have HVV := hid hvv
 clear hap hvv hc hb hr hE
 obtain ⟨WZ, hWZ⟩ : ∃ WZ, ((((((((((((((W.setCell ⟨w.heap.size, 0, none⟩ (.int .u8 5)).setCell ⟨w.heap.size, 3, none⟩ (.int .i64 (q : Int))).setCell ⟨w.heap.size + 2, 0, none⟩ (.int .u8 5)).setCell ⟨w.heap.size + 2, 1, none⟩ (.slice Ap np cp)).setCell ⟨w.heap.size + 2, 2, none⟩ (.string ⟨#[]⟩)).setCell ⟨w.heap.size + 2, 3, none⟩ (.int .i64 (q : Int))).setCell ⟨w.heap.size + 2, 4, none⟩ (.int .i64 0)).setCell ⟨w.heap.size + 2, 5, none⟩ (.int .i64 0)).setCell ⟨w.heap.size + 2, 6, none⟩ (.int .u8 0)).setCell ⟨w.heap.size + 2, 7, none⟩ (.int .i64 0)).setCell ⟨w.heap.size + 2, 8, none⟩ (.string ⟨#[]⟩)).setCell ⟨w.heap.size + 2, 9, none⟩ (.slice none 0 0)).setCell ⟨w.heap.size + 2, 10, none⟩ (.slice none 0 0)).setCell ⟨w.heap.size + 2, 11, none⟩ (.string ⟨#[]⟩)) = WZ := ⟨_, rfl⟩
 have HF := hid (show Ext w WZ from by rw [← hWZ]; exact HE.out.trans (((((((((((((((Keep.refl (fun k => w.heap.size ≤ k) W).setAt (fun _ => by omega) _ _).setAt (fun _ => by omega) _ _).setAt (fun _ => by omega) _ _).setAt (fun _ => by omega) _ _).setAt (fun _ => by omega) _ _).setAt (fun _ => by omega) _ _).setAt (fun _ => by omega) _ _).setAt (fun _ => by omega) _ _).setAt (fun _ => by omega) _ _).setAt (fun _ => by omega) _ _).setAt (fun _ => by omega) _ _).setAt (fun _ => by omega) _ _).setAt (fun _ => by omega) _ _).setAt (fun _ => by omega) _ _) fun k hk e => by omega)
 have HWZ := hid hWZ
 clear hWZ HC HB HR
 go_enter Tryd.func68, Tryd.ntmps68
 go_wp2
 refine bodyPost_ret (v := .agg #[U8 5, .slice Ap np cp, .string ⟨#[]⟩, .int .i64 (q : Int), .int .i64 0, .int .i64 0, U8 0, .int .i64 0, .string ⟨#[]⟩, .slice none 0 0, .slice none 0 0, .string ⟨#[]⟩]) (by simp [results, Tryd.results68, go_sem, d0, d1, d2, d3, d4, d5, d6, d7, d8, d9, d10, d11]) rfl ?_
 first | rw [HWZ.out] | (have e := HWZ.out; simp only [show ∀ x : Nat, x + 2 = x + 1 + 1 from fun _ => rfl] at e; rw [e])
 exact ⟨5, (q : Int), 0, ZV, _, _, rfl, ⟨q, rfl, .inr (.inl ⟨rfl, hqn, rfl, rfl⟩)⟩, Sl.nil _ _, Sl.nil _ _, ZV.svd, ZV.size_ok, HF.out⟩
theorem list6_6 (w : World) (S : BS) (pv av : Value) (a : Ac) (n : Nat) (hn : n ≤ 100000) (h0 : 0 < n) (hr4 : a.kind.toNat % 4 = 2) (ha : AAt w S av a) (hwi : (Lit.int .i64 a.i).wf = true) (hwj : (Lit.int .i64 a.j).wf = true) (hpv : ∃ A n c, pv = .slice A n c) :
  Calls Tryd.prog 68 #[.agg #[.int .u8 0, pv, .string ⟨#[]⟩, .int .i64 0, .int .i64 0, .int .i64 0, .int .u8 0, .int .i64 0, .string ⟨#[]⟩, .slice none 0 0, .slice none 0 0, .string ⟨#[]⟩], av, .int .i64 (n : Int)] w (List6Is n pv w) := by
 obtain ⟨ap, vv, rfl, hap, hvv⟩ := ha
 obtain ⟨Aa, ca, rfl, _⟩ := hap.shape
 obtain ⟨Av, cv, rfl, _⟩ := hvv.shape
 obtain ⟨Ap, np, cp, rfl⟩ := hpv
 obtain ⟨W, hW⟩ : ∃ W, ((w.alloc (.cells #[.int .u8 0, .slice Ap np cp, .string ⟨#[]⟩, .int .i64 0, .int .i64 0, .int .i64 0, .int .u8 0, .int .i64 0, .string ⟨#[]⟩, .slice none 0 0, .slice none 0 0, .string ⟨#[]⟩] TCMP)).alloc (.cells (acCells a (.slice Aa a.path.length ca) (.slice Av a.v.length cv)) TACT)).alloc (.cells ZCMP TCMP) = W := ⟨_, rfl⟩
 have hE : Ext w W := by rw [← hW]; exact (((Keep.refl _ _).alloc _).alloc _).alloc _
 have hsz : W.heap.size = w.heap.size + 3 := by rw [← hW]; simp
 have hc : Blk W w.heap.size TCMP #[.int .u8 0, .slice Ap np cp, .string ⟨#[]⟩, .int .i64 0, .int .i64 0, .int .i64 0, .int .u8 0, .int .i64 0, .string ⟨#[]⟩, .slice none 0 0, .slice none 0 0, .string ⟨#[]⟩] := by rw [← hW]; exact ((Blk.new _ _ _).alloc _).alloc _
 have hb : Blk W (w.heap.size + 1) TACT (acCells a (.slice Aa a.path.length ca) (.slice Av a.v.length cv)) := by
  have := (Blk.new (w.alloc (.cells #[.int .u8 0, .slice Ap np cp, .string ⟨#[]⟩, .int .i64 0, .int .i64 0, .int .i64 0, .int .u8 0, .int .i64 0, .string ⟨#[]⟩, .slice none 0 0, .slice none 0 0, .string ⟨#[]⟩] TCMP)) TACT (acCells a (.slice Aa a.path.length ca) (.slice Av a.v.length cv))).alloc (.cells ZCMP TCMP)
  rw [World.size_alloc, hW] at this
  exact this
 have hr : Blk W (w.heap.size + 2) TCMP ZCMP := by
  have := Blk.new ((w.alloc (.cells #[.int .u8 0, .slice Ap np cp, .string ⟨#[]⟩, .int .i64 0, .int .i64 0, .int .i64 0, .int .u8 0, .int .i64 0, .string ⟨#[]⟩, .slice none 0 0, .slice none 0 0, .string ⟨#[]⟩] TCMP)).alloc (.cells (acCells a (.slice Aa a.path.length ca) (.slice Av a.v.length cv)) TACT)) TCMP ZCMP
  rw [World.size_alloc, World.size_alloc, hW] at this
  exact this
 obtain ⟨i0, hi0, hi0m⟩ := run_max0 a.i hwi
 obtain ⟨j0, hj0, hj0m⟩ := run_max0 a.j hwj
 have hkz : ((a.kind.toNat : Int)).tmod 4 = 2 := by rw [Int.tmod_eq_emod_of_nonneg (by omega)]; omega
 have hkz2 : (a.kind.toNat : Int) % 4 = 2 := by omega
 have hnz : ¬ (n : Int) = 0 := by omega
 have hnz2 : ((n : Int) == 0) = false := by simpa using hnz
 have hQ : ((i0 : Int)).tmod (n : Int) = ((i0 % n : Nat) : Int) := by rw [← Int.ofNat_tmod]
 obtain ⟨q, hq⟩ : ∃ q, i0 % n = q := ⟨_, rfl⟩
 have hqn : q < n := by have : i0 % n < n := Nat.mod_lt _ h0; omega
 rw [hq] at hQ
 have b1 := hb.cell 1
 have b2 := hb.cell 2
 have b3 := hb.cell 3
 have b6 := hb.cell 6
 obtain ⟨c0, c1, c2, c3, c4, c5, c6, c7, c8, c9, c10, c11⟩ := sq12 hc
 obtain ⟨f0, f1, f2, f3, f4, f5, f6, f7, f8, f9, f10, f11⟩ := sqf12 hc
 obtain ⟨d0, d1, d2, d3, d4, d5, d6, d7, d8, d9, d10, d11⟩ := sq12 hr
 obtain ⟨g0, g1, g2, g3, g4, g5, g6, g7, g8, g9, g10, g11⟩ := sqf12 hr
 simp at b1 b2 b3 b6
 have HC := hid hc
 have HB := hid hb
 have HR := hid hr
 have HE := hid hE
 have HVV := hid hvv
 clear hap hvv hc hb hr hE
 obtain ⟨X1, hX1⟩ : ∃ X1, ((W.setCell ⟨w.heap.size, 0, none⟩ (.int .u8 6)).setCell ⟨w.heap.size, 3, none⟩ (.int .i64 (q : Int))) = X1 := ⟨_, rfl⟩
 have hk1 : Keep (· = w.heap.size) W X1 := by rw [← hX1]; exact (((Keep.refl (· = w.heap.size) W).set1 0 _).set1 3 _)
 have hx1 : Blk X1 w.heap.size TCMP #[.int .u8 6, .slice Ap np cp, .string ⟨#[]⟩, .int .i64 (q : Int), .int .i64 0, .int .i64 0, .int .u8 0, .int .i64 0, .string ⟨#[]⟩, .slice none 0 0, .slice none 0 0, .string ⟨#[]⟩] := by rw [← hX1]; exact ((HC.out.set_ 0 (.int .u8 6)).set_ 3 (.int .i64 (q : Int)))
 have HX1 := hid hx1
 have HXE := hid hX1
 have HR1 := hid (HR.out.keep hk1 (by omega))
 have HE1 := hid (HE.out.trans hk1 fun k hk e => by omega)
 have HV1 := hid (((HVV.out.more (S' := fun k => k < w.heap.size) ETok.ok fun k h _ => h).ext ETok.ok HE.out).keep ETok.ok hk1 fun k h e => by omega)
 clear hX1 hk1 hx1
 go_enter Tryd.func68, Tryd.ntmps68
 go_wp2_with fail
 rw [HXE.out]
 refine (build_okD a.v _ _ X1 HV1.out).mono ?_
 rintro e X2 ⟨u, x, rfl, hsv, hxs, hu, hE2⟩
 obtain ⟨lv, ov, rfl, hl, ho⟩ := hu
 obtain ⟨A5, m5, rfl, _⟩ := hl.shape
 obtain ⟨B5, k5, rfl, _⟩ := ho.shape
 have HLV := hid hl
 have HOV := hid ho
 have HSV := hid hsv
 have HXS := hid hxs
 replace HX1 := hid (HX1.out.keep hE2 id)
 replace HR1 := hid (HR1.out.keep hE2 id)
 have HE2 := hid (HE1.out.ext hE2)
 have hs2 := hE2.size
 have hs1 : w.heap.size + 3 ≤ X1.heap.size := by have := HE1.out.size; rw [← HXE.out]; simp; omega
 have HS1 := hid hs1
 clear hl ho hsv hxs hE2 HXE HE1 HC HB HR HE HVV HV1 hs2 hs1 b1 b2 b3 b6 c0 d0 f0 g0 c1 d1 f1 g1 c2 d2 f2 g2 c3 d3 f3 g3 c4 d4 f4 g4 c5 d5 f5 g5 c6 d6 f6 g6 c7 d7 f7 g7 c8 d8 f8 g8 c9 d9 f9 g9 c10 d10 f10 g10 c11 d11 f11 g11
 obtain ⟨c0, c1, c2, c3, c4, c5, c6, c7, c8, c9, c10, c11⟩ := sq12 HX1.out
 obtain ⟨f0, f1, f2, f3, f4, f5, f6, f7, f8, f9, f10, f11⟩ := sqf12 HX1.out
 obtain ⟨d0, d1, d2, d3, d4, d5, d6, d7, d8, d9, d10, d11⟩ := sq12 HR1.out
 obtain ⟨g0, g1, g2, g3, g4, g5, g6, g7, g8, g9, g10, g11⟩ := sqf12 HR1.out
 obtain ⟨WZ, hWZ⟩ : ∃ WZ, (((((((((((((((((X2.setCell ⟨w.heap.size, 6, none⟩ (.int .u8 (x.kind.toNat : Int))).setCell ⟨w.heap.size, 7, none⟩ (.int .i64 x.n)).setCell ⟨w.heap.size, 8, none⟩ (.string x.s)).setCell ⟨w.heap.size, 9, none⟩ (.slice A5 x.l.length m5)).setCell ⟨w.heap.size, 10, none⟩ (.slice B5 x.o.length k5)).setCell ⟨w.heap.size + 2, 0, none⟩ (.int .u8 6)).setCell ⟨w.heap.size + 2, 1, none⟩ (.slice Ap np cp)).setCell ⟨w.heap.size + 2, 2, none⟩ (.string ⟨#[]⟩)).setCell ⟨w.heap.size + 2, 3, none⟩ (.int .i64 (q : Int))).setCell ⟨w.heap.size + 2, 4, none⟩ (.int .i64 0)).setCell ⟨w.heap.size + 2, 5, none⟩ (.int .i64 0)).setCell ⟨w.heap.size + 2, 6, none⟩ (.int .u8 (x.kind.toNat : Int))).setCell ⟨w.heap.size + 2, 7, none⟩ (.int .i64 x.n)).setCell ⟨w.heap.size + 2, 8, none⟩ (.string x.s)).setCell ⟨w.heap.size + 2, 9, none⟩ (.slice A5 x.l.length m5)).setCell ⟨w.heap.size + 2, 10, none⟩ (.slice B5 x.o.length k5)).setCell ⟨w.heap.size + 2, 11, none⟩ (.string ⟨#[]⟩)) = WZ := ⟨_, rfl⟩
 have hkz : Keep (fun k => k = w.heap.size ∨ k = w.heap.size + 2) X2 WZ := by rw [← hWZ]; exact ((((((((((((((((((Keep.refl (fun k => k = w.heap.size ∨ k = w.heap.size + 2) X2).setAt (fun _ => by omega) _ _).setAt (fun _ => by omega) _ _).setAt (fun _ => by omega) _ _).setAt (fun _ => by omega) _ _).setAt (fun _ => by omega) _ _).setAt (fun _ => by omega) _ _).setAt (fun _ => by omega) _ _).setAt (fun _ => by omega) _ _).setAt (fun _ => by omega) _ _).setAt (fun _ => by omega) _ _).setAt (fun _ => by omega) _ _).setAt (fun _ => by omega) _ _).setAt (fun _ => by omega) _ _).setAt (fun _ => by omega) _ _).setAt (fun _ => by omega) _ _).setAt (fun _ => by omega) _ _).setAt (fun _ => by omega) _ _)
 have HF := hid (HE2.out.trans hkz fun k hk e => by omega)
 have HKZ := hid hkz
 have HWZ := hid hWZ
 clear hWZ hkz
 go_wp2
 refine bodyPost_ret (v := .agg #[U8 6, .slice Ap np cp, .string ⟨#[]⟩, .int .i64 (q : Int), .int .i64 0, .int .i64 0, U8 x.kind, .int .i64 x.n, .string x.s, .slice A5 x.l.length m5, .slice B5 x.o.length k5, .string ⟨#[]⟩]) (by simp [results, Tryd.results68, go_sem, d0, d1, d2, d3, d4, d5, d6, d7, d8, d9, d10, d11]) rfl ?_
 first | rw [HWZ.out] | (have e := HWZ.out; simp only [show ∀ x : Nat, x + 2 = x + 1 + 1 from fun _ => rfl] at e; rw [e])
 have hs1 := HS1.out
 exact ⟨6, (q : Int), 0, x, _, _, rfl, ⟨q, rfl, .inr (.inr (.inl ⟨rfl, hqn, rfl⟩))⟩, (HLV.out.keep EVal.ok HKZ.out fun k h e => by omega).more EVal.ok fun k _ h => by omega, (HOV.out.keep EField.ok HKZ.out fun k h e => by omega).more EField.ok fun k _ h => by omega, HSV.out, HXS.out, HF.out⟩
theorem list6_7 (w : World) (S : BS) (pv av : Value) (a : Ac) (n : Nat) (hn : n ≤ 100000) (h0 : 0 < n) (hr4 : a.kind.toNat % 4 = 3) (ha : AAt w S av a) (hwi : (Lit.int .i64 a.i).wf = true) (hwj : (Lit.int .i64 a.j).wf = true) (hpv : ∃ A n c, pv = .slice A n c) :
  Calls Tryd.prog 68 #[.agg #[.int .u8 0, pv, .string ⟨#[]⟩, .int .i64 0, .int .i64 0, .int .i64 0, .int .u8 0, .int .i64 0, .string ⟨#[]⟩, .slice none 0 0, .slice none 0 0, .string ⟨#[]⟩], av, .int .i64 (n : Int)] w (List6Is n pv w) := by
 obtain ⟨ap, vv, rfl, hap, hvv⟩ := ha
 obtain ⟨Aa, ca, rfl, _⟩ := hap.shape
 obtain ⟨Av, cv, rfl, _⟩ := hvv.shape
 obtain ⟨Ap, np, cp, rfl⟩ := hpv
 obtain ⟨W, hW⟩ : ∃ W, ((w.alloc (.cells #[.int .u8 0, .slice Ap np cp, .string ⟨#[]⟩, .int .i64 0, .int .i64 0, .int .i64 0, .int .u8 0, .int .i64 0, .string ⟨#[]⟩, .slice none 0 0, .slice none 0 0, .string ⟨#[]⟩] TCMP)).alloc (.cells (acCells a (.slice Aa a.path.length ca) (.slice Av a.v.length cv)) TACT)).alloc (.cells ZCMP TCMP) = W := ⟨_, rfl⟩
 have hE : Ext w W := by rw [← hW]; exact (((Keep.refl _ _).alloc _).alloc _).alloc _
 have hsz : W.heap.size = w.heap.size + 3 := by rw [← hW]; simp
 have hc : Blk W w.heap.size TCMP #[.int .u8 0, .slice Ap np cp, .string ⟨#[]⟩, .int .i64 0, .int .i64 0, .int .i64 0, .int .u8 0, .int .i64 0, .string ⟨#[]⟩, .slice none 0 0, .slice none 0 0, .string ⟨#[]⟩] := by rw [← hW]; exact ((Blk.new _ _ _).alloc _).alloc _
 have hb : Blk W (w.heap.size + 1) TACT (acCells a (.slice Aa a.path.length ca) (.slice Av a.v.length cv)) := by
  have := (Blk.new (w.alloc (.cells #[.int .u8 0, .slice Ap np cp, .string ⟨#[]⟩, .int .i64 0, .int .i64 0, .int .i64 0, .int .u8 0, .int .i64 0, .string ⟨#[]⟩, .slice none 0 0, .slice none 0 0, .string ⟨#[]⟩] TCMP)) TACT (acCells a (.slice Aa a.path.length ca) (.slice Av a.v.length cv))).alloc (.cells ZCMP TCMP)
  rw [World.size_alloc, hW] at this
  exact this
 have hr : Blk W (w.heap.size + 2) TCMP ZCMP := by
  have := Blk.new ((w.alloc (.cells #[.int .u8 0, .slice Ap np cp, .string ⟨#[]⟩, .int .i64 0, .int .i64 0, .int .i64 0, .int .u8 0, .int .i64 0, .string ⟨#[]⟩, .slice none 0 0, .slice none 0 0, .string ⟨#[]⟩] TCMP)).alloc (.cells (acCells a (.slice Aa a.path.length ca) (.slice Av a.v.length cv)) TACT)) TCMP ZCMP
  rw [World.size_alloc, World.size_alloc, hW] at this
  exact this
 obtain ⟨i0, hi0, hi0m⟩ := run_max0 a.i hwi
 obtain ⟨j0, hj0, hj0m⟩ := run_max0 a.j hwj
 have hkz : ((a.kind.toNat : Int)).tmod 4 = 3 := by rw [Int.tmod_eq_emod_of_nonneg (by omega)]; omega
 have hkz2 : (a.kind.toNat : Int) % 4 = 3 := by omega
 have hnz : ¬ (n : Int) = 0 := by omega
 have hnz2 : ((n : Int) == 0) = false := by simpa using hnz
 have hQ : ((i0 : Int)).tmod (n : Int) = ((i0 % n : Nat) : Int) := by rw [← Int.ofNat_tmod]
 obtain ⟨q, hq⟩ : ∃ q, i0 % n = q := ⟨_, rfl⟩
 have hqn : q < n := by have : i0 % n < n := Nat.mod_lt _ h0; omega
 rw [hq] at hQ
 have hQj : ((j0 : Int)).tmod (n : Int) = ((j0 % n : Nat) : Int) := by rw [← Int.ofNat_tmod]
 obtain ⟨q7, hq7⟩ : ∃ q7, j0 % n = q7 := ⟨_, rfl⟩
 have hq7n : q7 < n := by have : j0 % n < n := Nat.mod_lt _ h0; omega
 rw [hq7] at hQj
 have b1 := hb.cell 1
 have b2 := hb.cell 2
 have b3 := hb.cell 3
 have b6 := hb.cell 6
 obtain ⟨c0, c1, c2, c3, c4, c5, c6, c7, c8, c9, c10, c11⟩ := sq12 hc
 obtain ⟨f0, f1, f2, f3, f4, f5, f6, f7, f8, f9, f10, f11⟩ := sqf12 hc
 obtain ⟨d0, d1, d2, d3, d4, d5, d6, d7, d8, d9, d10, d11⟩ := sq12 hr
 obtain ⟨g0, g1, g2, g3, g4, g5, g6, g7, g8, g9, g10, g11⟩ := sqf12 hr
 simp at b1 b2 b3 b6
 have HC := hid hc
 have HB := hid hb
 have HR := hid hr
 have HE := hid hE
 have HVV := hid hvv
 clear hap hvv hc hb hr hE
 obtain ⟨WZ, hWZ⟩ : ∃ WZ, (((((((((((((((W.setCell ⟨w.heap.size, 0, none⟩ (.int .u8 7)).setCell ⟨w.heap.size, 3, none⟩ (.int .i64 (q : Int))).setCell ⟨w.heap.size, 4, none⟩ (.int .i64 (q7 : Int))).setCell ⟨w.heap.size + 2, 0, none⟩ (.int .u8 7)).setCell ⟨w.heap.size + 2, 1, none⟩ (.slice Ap np cp)).setCell ⟨w.heap.size + 2, 2, none⟩ (.string ⟨#[]⟩)).setCell ⟨w.heap.size + 2, 3, none⟩ (.int .i64 (q : Int))).setCell ⟨w.heap.size + 2, 4, none⟩ (.int .i64 (q7 : Int))).setCell ⟨w.heap.size + 2, 5, none⟩ (.int .i64 0)).setCell ⟨w.heap.size + 2, 6, none⟩ (.int .u8 0)).setCell ⟨w.heap.size + 2, 7, none⟩ (.int .i64 0)).setCell ⟨w.heap.size + 2, 8, none⟩ (.string ⟨#[]⟩)).setCell ⟨w.heap.size + 2, 9, none⟩ (.slice none 0 0)).setCell ⟨w.heap.size + 2, 10, none⟩ (.slice none 0 0)).setCell ⟨w.heap.size + 2, 11, none⟩ (.string ⟨#[]⟩)) = WZ := ⟨_, rfl⟩
 have HF := hid (show Ext w WZ from by rw [← hWZ]; exact HE.out.trans ((((((((((((((((Keep.refl (fun k => w.heap.size ≤ k) W).setAt (fun _ => by omega) _ _).setAt (fun _ => by omega) _ _).setAt (fun _ => by omega) _ _).setAt (fun _ => by omega) _ _).setAt (fun _ => by omega) _ _).setAt (fun _ => by omega) _ _).setAt (fun _ => by omega) _ _).setAt (fun _ => by omega) _ _).setAt (fun _ => by omega) _ _).setAt (fun _ => by omega) _ _).setAt (fun _ => by omega) _ _).setAt (fun _ => by omega) _ _).setAt (fun _ => by omega) _ _).setAt (fun _ => by omega) _ _).setAt (fun _ => by omega) _ _) fun k hk e => by omega)
 have HWZ := hid hWZ
 clear hWZ HC HB HR
 go_enter Tryd.func68, Tryd.ntmps68
 go_wp2
 refine bodyPost_ret (v := .agg #[U8 7, .slice Ap np cp, .string ⟨#[]⟩, .int .i64 (q : Int), .int .i64 (q7 : Int), .int .i64 0, U8 0, .int .i64 0, .string ⟨#[]⟩, .slice none 0 0, .slice none 0 0, .string ⟨#[]⟩]) (by simp [results, Tryd.results68, go_sem, d0, d1, d2, d3, d4, d5, d6, d7, d8, d9, d10, d11]) rfl ?_
 first | rw [HWZ.out] | (have e := HWZ.out; simp only [show ∀ x : Nat, x + 2 = x + 1 + 1 from fun _ => rfl] at e; rw [e])
 exact ⟨7, (q : Int), (q7 : Int), ZV, _, _, rfl, ⟨q, rfl, .inr (.inr (.inr ⟨rfl, hqn, rfl, q7, rfl, hq7n⟩))⟩, Sl.nil _ _, Sl.nil _ _, ZV.svd, ZV.size_ok, HF.out⟩
theorem list6_ok (w : World) (S : BS) (pv av : Value) (a : Ac) (n : Nat) (hn : n ≤ 100000) (ha : AAt w S av a) (hwi : (Lit.int .i64 a.i).wf = true) (hwj : (Lit.int .i64 a.j).wf = true) (hpv : ∃ A n c, pv = .slice A n c) :
  Calls Tryd.prog 68 #[.agg #[.int .u8 0, pv, .string ⟨#[]⟩, .int .i64 0, .int .i64 0, .int .i64 0, .int .u8 0, .int .i64 0, .string ⟨#[]⟩, .slice none 0 0, .slice none 0 0, .string ⟨#[]⟩], av, .int .i64 (n : Int)] w (List6Is n pv w) := by
 by_cases h0 : n = 0
 ·exact list6_z w S pv av a n hn h0 ha hwi hwj hpv
 have h0 : 0 < n := by omega
 have h4 : a.kind.toNat % 4 < 4 := Nat.mod_lt _ (by decide)
 have : a.kind.toNat % 4 = 0 ∨ a.kind.toNat % 4 = 1 ∨ a.kind.toNat % 4 = 2 ∨ a.kind.toNat % 4 = 3 := by omega
 rcases this with h | h | h | h
 ·exact list6_4 w S pv av a n hn h0 h ha hwi hwj hpv
 ·exact list6_5 w S pv av a n hn h0 h ha hwi hwj hpv
 ·exact list6_6 w S pv av a n hn h0 h ha hwi hwj hpv
 ·exact list6_7 w S pv av a n hn h0 h ha hwi hwj hpv
end Go.Proofs.YtggkidnlmaindaaDoor
