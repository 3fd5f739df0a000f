/- TurnF, TurnG, TurnH, SeqA, TurnI: laid together. -/
import Derived.Test.YtioplgfopillnaaDoorMeB17
import Derived.Test.YtioplgfopillnaaDoorMeB2
import Derived.Test.YtioplgfopillnaaDoorMeB4
set_option linter.unusedSimpArgs false
set_option linter.unusedVariables false
set_option maxHeartbeats 25600000
set_option maxRecDepth 20000
namespace Go.Proofs.YtioplgfopillnaaDoor
open Go.RowKit
theorem BegIs.yes {p q : List St} {w w' : World} {e : Ending} (h : BegIs p q w e w') (hb : q <+: p) : e = .returned (.bool true) ∧ Ext w w' := by
 obtain ⟨⟨h1, _⟩ | ⟨_, h1⟩, h2⟩ := h
 ·exact ⟨h1, h2⟩
 ·exact absurd hb h1
theorem BegIs.no {p q : List St} {w w' : World} {e : Ending} (h : BegIs p q w e w') (hb : ¬ q <+: p) : e = .returned (.bool false) ∧ Ext w w' := by
 obtain ⟨⟨_, h1⟩ | ⟨h1, _⟩, h2⟩ := h
 ·exact absurd h1 hb
 ·exact ⟨h1, h2⟩
theorem BegIs.is {p q : List St} {w w' : World} {e : Ending} (h : BegIs p q w e w') (b : Bool) (hb : b = true ↔ q <+: p) : e = .returned (.bool b) ∧ Ext w w' := by
 cases b with
 | true => exact h.yes (hb.1 rfl)
 | false => exact h.no fun hc => by simpa using hb.2 hc
theorem set12f {w : World} {b : Nat} {T : TypeId} {cs : Array Value} (h : Blk w b T cs) (hc : cs.size = 12) (a0 a1 a2 a3 a4 a5 a6 a7 a8 a9 a10 a11 : Value) : Blk ((((((((((((w.setCell ⟨b, 0, none⟩ a0).setCell ⟨b, 1, none⟩ a1).setCell ⟨b, 2, none⟩ a2).setCell ⟨b, 3, none⟩ a3).setCell ⟨b, 4, none⟩ a4).setCell ⟨b, 5, none⟩ a5).setCell ⟨b, 6, none⟩ a6).setCell ⟨b, 7, none⟩ a7).setCell ⟨b, 8, none⟩ a8).setCell ⟨b, 9, none⟩ a9).setCell ⟨b, 10, none⟩ a10).setCell ⟨b, 11, none⟩ a11) b T #[a0, a1, a2, a3, a4, a5, a6, a7, a8, a9, a10, a11] := by
 obtain ⟨l⟩ := cs
 match l, hc with
 | [x0, x1, x2, x3, x4, x5, x6, x7, x8, x9, x10, x11], _ =>
  have h1 := ((((((((((((h.set_ 0 a0).set_ 1 a1).set_ 2 a2).set_ 3 a3).set_ 4 a4).set_ 5 a5).set_ 6 a6).set_ 7 a7).set_ 8 a8).set_ 9 a9).set_ 10 a10).set_ 11 a11)
  simp only [sqa, sqb, sqc] at h1
  exact h1
def TurnOne (w : World) (x : Cp) (e : Ending) (w' : World) : Prop := ∃ g pv lv ov, e = .returned (.slice (some ⟨g, 0, none⟩) 1 1) ∧ Blk w' g TCMP (cpCells x pv lv ov) ∧ Sl ESt w' (fun k => w.heap.size ≤ k) pv x.path ∧ Sl EVal w' (fun k => w.heap.size ≤ k) lv x.v.l ∧ Sl EField w' (fun k => w.heap.size ≤ k) ov x.v.o ∧ Ext w w'
theorem turn_apart (w : World) (S S2 : BS) (u t : Value) (x y : Cp) (left : Bool) (hx : CAt w S u x) (hy : CAt w S2 t y) (hp : x.path.length ≤ 1000) (hv : x.v.size ≤ 1000000) (hn : ¬ y.path <+: x.path) :
  Calls Tryd.prog 13 #[u, t, .bool left] w (TurnOne w x) := by
 obtain ⟨pv, lv, ov, rfl, h1, h2, h3⟩ := hx.cut
 obtain ⟨Ap, cp, rfl, _⟩ := h1.shape
 obtain ⟨Al, cl, rfl, _⟩ := h2.shape
 obtain ⟨Ao, co, rfl, _⟩ := h3.shape
 obtain ⟨qv, mv, nv, rfl, k1, k2, k3⟩ := hy.cut
 obtain ⟨Bp, dp, rfl, _⟩ := k1.shape
 obtain ⟨Bl, dl, rfl, _⟩ := k2.shape
 obtain ⟨Bo, do_, rfl, _⟩ := k3.shape
 obtain ⟨W, hW⟩ : ∃ W, (w.alloc (.cells (cpCells x (.slice Ap x.path.length cp) (.slice Al x.v.l.length cl) (.slice Ao x.v.o.length co)) TCMP)).alloc (.cells (cpCells y (.slice Bp y.path.length dp) (.slice Bl y.v.l.length dl) (.slice Bo y.v.o.length do_)) TCMP) = W := ⟨_, rfl⟩
 have hE : Ext w W := by rw [← hW]; exact ((Keep.refl _ _).alloc _).alloc _
 have hsz : W.heap.size = w.heap.size + 2 := by rw [← hW]; simp
 have hb : Blk W w.heap.size TCMP (cpCells x (.slice Ap x.path.length cp) (.slice Al x.v.l.length cl) (.slice Ao x.v.o.length co)) := by rw [← hW]; exact (Blk.new _ _ _).alloc _
 have hc : Blk W (w.heap.size + 1) TCMP (cpCells y (.slice Bp y.path.length dp) (.slice Bl y.v.l.length dl) (.slice Bo y.v.o.length do_)) := by
  have := Blk.new (w.alloc (.cells (cpCells x (.slice Ap x.path.length cp) (.slice Al x.v.l.length cl) (.slice Ao x.v.o.length co)) TCMP)) TCMP (cpCells y (.slice Bp y.path.length dp) (.slice Bl y.v.l.length dl) (.slice Bo y.v.o.length do_))
  rw [World.size_alloc, hW] at this
  exact this
 have HX := hid (show CAt W (fun k => k < w.heap.size) (.agg (cpCells x (.slice Ap x.path.length cp) (.slice Al x.v.l.length cl) (.slice Ao x.v.o.length co))) x from (CAt.ext ⟨_, _, _, rfl, h1, h2, h3⟩ hE).more fun k _ h => h.2)
 have HQ := hid ((k1.more (S' := fun k => k < w.heap.size) ESt.ok fun k _ h => h.2).ext ESt.ok hE)
 have HB := hid hb
 have HC := hid hc
 have HE := hid hE
 have HN := hid hn
 obtain ⟨a0, a1, a2, a3, a4, a5, a6, a7, a8, a9, a10, a11⟩ := sq12 hb
 clear h1 h2 h3 k1 k2 k3 hE hb hc hx hy hn
 go_enter Tryd.func13, Tryd.ntmps13
 go_wp2_with fail
 refine (comp_copy W _ _ x HX.out hp hv).mono ?_
 rintro e X1 ⟨u', rfl, hu', hE1⟩
 obtain ⟨pv2, lv2, ov2, rfl, g1, g2, g3⟩ := hu'
 obtain ⟨Ap2, cp2, rfl, _⟩ := g1.shape
 obtain ⟨Al2, cl2, rfl, _⟩ := g2.shape
 obtain ⟨Ao2, co2, rfl, _⟩ := g3.shape
 have hs1 := hE1.size
 have hb := HB.out.keep hE1 id
 obtain ⟨X2, hX2⟩ : ∃ X2, ((((((((((((X1.setCell ⟨w.heap.size, 0, none⟩ (.int .u8 (x.kind.toNat : Int))).setCell ⟨w.heap.size, 1, none⟩ (.slice Ap2 x.path.length cp2)).setCell ⟨w.heap.size, 2, none⟩ (.string x.key)).setCell ⟨w.heap.size, 3, none⟩ (.int .i64 x.i)).setCell ⟨w.heap.size, 4, none⟩ (.int .i64 x.j)).setCell ⟨w.heap.size, 5, none⟩ (.int .i64 x.n)).setCell ⟨w.heap.size, 6, none⟩ (.int .u8 (x.v.kind.toNat : Int))).setCell ⟨w.heap.size, 7, none⟩ (.int .i64 x.v.n)).setCell ⟨w.heap.size, 8, none⟩ (.string x.v.s)).setCell ⟨w.heap.size, 9, none⟩ (.slice Al2 x.v.l.length cl2)).setCell ⟨w.heap.size, 10, none⟩ (.slice Ao2 x.v.o.length co2)).setCell ⟨w.heap.size, 11, none⟩ (.string x.s)) = X2 := ⟨_, rfl⟩
 have hk : Keep (· = w.heap.size) X1 X2 := by rw [← hX2]; exact ((((((((((((Keep.refl (· = w.heap.size) X1).set1 0 _).set1 1 _).set1 2 _).set1 3 _).set1 4 _).set1 5 _).set1 6 _).set1 7 _).set1 8 _).set1 9 _).set1 10 _).set1 11 _
 have hb2 : Blk X2 w.heap.size TCMP (cpCells x (.slice Ap2 x.path.length cp2) (.slice Al2 x.v.l.length cl2) (.slice Ao2 x.v.o.length co2)) := by rw [← hX2]; exact set12f hb rfl (.int .u8 (x.kind.toNat : Int)) (.slice Ap2 x.path.length cp2) (.string x.key) (.int .i64 x.i) (.int .i64 x.j) (.int .i64 x.n) (.int .u8 (x.v.kind.toNat : Int)) (.int .i64 x.v.n) (.string x.v.s) (.slice Al2 x.v.l.length cl2) (.slice Ao2 x.v.o.length co2) (.string x.s)
 have HG1 := hid (g1.keep ESt.ok hk fun k h e => by omega)
 have HG2 := hid (g2.keep EVal.ok hk fun k h e => by omega)
 have HG3 := hid (g3.keep EField.ok hk fun k h e => by omega)
 have HB2 := hid hb2
 have HC2 := hid ((HC.out.keep hE1 id).keep hk (by omega))
 have HQ2 := hid ((HQ.out.ext ESt.ok hE1).keep ESt.ok hk fun k h e => by omega)
 have HE2 := hid ((HE.out.ext hE1).trans hk fun k hk e => by omega)
 have HX2 := hid hX2
 obtain ⟨b0, b1, b2, b3, b4, b5, b6, b7, b8, b9, b10, b11⟩ := sq12 hb
 obtain ⟨f0, f1, f2, f3, f4, f5, f6, f7, f8, f9, f10, f11⟩ := sqf12 hb
 have y1 := (HC.out.keep hE1 id).cell 1
 simp at y1
 clear hX2 hk hb2 hb g1 g2 g3 hE1 HB HC HQ HX a0 a1 a2 a3 a4 a5 a6 a7 a8 a9 a10 a11
 go_wp2_with fail
 rw [HX2.out]
 clear y1 b0 f0 b1 f1 b2 f2 b3 f3 b4 f4 b5 f5 b6 f6 b7 f7 b8 f8 b9 f9 b10 f10 b11 f11
 refine (begins_ok X2 _ _ _ _ _ _ HG1.out HQ2.out).mono ?_
 intro e X3 hbeg
 obtain ⟨rfl, hE3⟩ := hbeg.no HN.out
 have HB3 := hid (HB2.out.keep hE3 id)
 have HG1' := hid (HG1.out.ext ESt.ok hE3)
 have HG2' := hid (HG2.out.ext EVal.ok hE3)
 have HG3' := hid (HG3.out.ext EField.ok hE3)
 have HE3 := hid (HE2.out.ext hE3)
 clear hbeg hE3 HB2 HG1 HG2 HG3 HC2 HQ2 HE2 HX2
 obtain ⟨b0, b1, b2, b3, b4, b5, b6, b7, b8, b9, b10, b11⟩ := sq12 HB3.out
 have hE4 : Ext X3 (X3.alloc (.cells (cpCells x (.slice Ap2 x.path.length cp2) (.slice Al2 x.v.l.length cl2) (.slice Ao2 x.v.o.length co2)) TCMP)) := (Keep.refl _ _).alloc _
 have hbn : Blk (X3.alloc (.cells (cpCells x (.slice Ap2 x.path.length cp2) (.slice Al2 x.v.l.length cl2) (.slice Ao2 x.v.o.length co2)) TCMP)) X3.heap.size TCMP (cpCells x (.slice Ap2 x.path.length cp2) (.slice Al2 x.v.l.length cl2) (.slice Ao2 x.v.o.length co2)) := Blk.new _ _ _
 have HF := hid (And.intro hbn hE4)
 clear hbn hE4
 go_wp2
 go_ret
 exact ⟨_, _, _, _, rfl, HF.out.1, (HG1'.out.ext ESt.ok HF.out.2).more ESt.ok fun k _ h => by omega, (HG2'.out.ext EVal.ok HF.out.2).more EVal.ok fun k _ h => by omega, (HG3'.out.ext EField.ok HF.out.2).more EField.ok fun k _ h => by omega, HE3.out.ext HF.out.2⟩
def EAc : El Ac := { size := 7, rd := fun w S cs a => ∃ pv vv, cs = [pv, U8 a.kind, .int .i64 a.i, .int .i64 a.j, .int .i64 a.n, .string a.s, vv] ∧ BytesS w S pv a.path ∧ Sl ETok w S vv a.v }
theorem EAc.ok : EAc.Ok where
 pos := by decide
 len := fun ⟨_, _, h, _⟩ => by subst h; rfl
 one := fun ⟨pv, vv, h, h1, h2⟩ u hu => by
  subst h
  obtain ⟨A, c, rfl, _⟩ := h1.shape
  obtain ⟨B, d, rfl, _⟩ := h2.shape
  simp at hu
  rcases hu with rfl | rfl | rfl | rfl | rfl | rfl | rfl <;> rfl
 keep := fun ⟨pv, vv, h, h1, h2⟩ hk hF => ⟨pv, vv, h, h1.keep EU8.ok hk hF, h2.keep ETok.ok hk hF⟩
 more := fun ⟨pv, vv, h, h1, h2⟩ hS => ⟨pv, vv, h, h1.more EU8.ok fun k hk => hS k hk, h2.more ETok.ok fun k hk => hS k hk⟩
def NumIs (w : World) (e : Ending) (w' : World) : Prop := ∃ z : Int, e = .returned (.int .i64 z) ∧ Ext w w'
theorem heavy6_any (w : World) (S : BS) (v : Value) (l : List Ac) (h : Sl EAc w S v l) : Calls Tryd.prog 38 #[v] w (NumIs w) := by
 obtain ⟨A, c, rfl, hlc, hcm⟩ := h.shape
 unfold maxLen at hcm
 have H := hid h
 obtain ⟨n, hn⟩ : ∃ n, l.length = n := ⟨_, rfl⟩
 rw [hn] at H hlc ⊢
 have HN := hid hn
 clear h hn
 go_enter Tryd.func38, Tryd.ntmps38
 go_wp2_with fail
 go_loopw [3, 4] (fun y i wr => ∃ (j : Nat) (z : Int), j ≤ n ∧ i = .int .i64 j ∧ y = .int .i64 z ∧ Ext w wr) (fun _ i _ => n - (intOf i).toNat)
 case atStart => exact ⟨0, 0, by omega, rfl, rfl, Keep.refl _ _⟩
 case round =>
  obtain ⟨j, z, hj, rfl, rfl, hE⟩ := hrel
  have HE := hid hE
  clear hE
  by_cases hlt : j < n
  ·have hX : (j : Int) < n := by omega
   obtain ⟨b, off, c0, rfl, _, _, ⟨pv, vv, rfl, h1, h2⟩, hc⟩ := (H.out.ext EAc.ok HE.out).at_ EAc.ok (k := j) (by rw [HN.out]; exact hlt)
   generalize l[j]'(by rw [HN.out]; exact hlt) = a at *
   obtain ⟨Ap, cp, rfl, _⟩ := h1.shape
   obtain ⟨Av, cv, rfl, hcv, hcvm⟩ := h2.shape
   have g0 := hc 0 _ rfl
   have g5 := hc 5 _ rfl
   have g6 := hc 6 _ rfl
   have e7 : EAc.size = 7 := rfl
   simp only [e7, Nat.add_zero] at g0 g5 g6
   have H2 := hid h2
   clear hc e7 h1 h2
   unfold maxLen at hcvm
   obtain ⟨m, hm⟩ : ∃ m, a.v.length = m := ⟨_, rfl⟩
   have HM := hid hm
   rw [hm] at g6 H2 hcv
   clear hm
   go_wp2_with fail
   refine wp_region_grow (specOf []) (fun w' => Ext wr w') stable_nil (stableC_ext _) (by kernel_rfl) (by kernel_rfl) (Keep.drew (Keep.refl _ _)) ?_
   iterate 17
    (try simp only [Act.put, sqa, sqb, sqc])
    refine grow_run rfl rfl rfl ?_
    apply Exists.intro
    refine ⟨fun w' hC hK => ?_, ?_⟩
    ·have g0 := sqw hC g0
     have g5 := sqw hC g5
     go_simp
     rfl
   refine grow_nil fun w1 hC _ => ?_
   have hC : Ext wr w1 := hC
   replace g6 := sqw hC g6
   have HE1 := hid (HE.out.ext hC)
   have HB1 := hid (H2.out.ext ETok.ok hC)
   clear hC g0 g5
   go_wp2_with fail
   go_loopw [3, 5] (fun y i w2 => ∃ (k : Nat) (z : Int), k ≤ m ∧ i = .int .i64 k ∧ y = .int .i64 z ∧ w2 = w1) (fun _ i _ => m - (intOf i).toNat)
   case atStart => exact ⟨0, _, by omega, rfl, rfl, rfl⟩
   case round =>
    obtain ⟨k, z2, hk, rfl, rfl, rfl⟩ := hrel
    by_cases hlt2 : k < m
    ·have hX2 : (k : Int) < m := by omega
     obtain ⟨b2, o2, c2, rfl, _, _, hr2, hc2⟩ := HB1.out.at_ ETok.ok (k := k) (by rw [HM.out]; exact hlt2)
     have hr2 : c2 = [U8 _, .int .i64 _, .string _, U8 _] := hr2
     subst hr2
     have t2 := hc2 2 _ rfl
     have e4 : ETok.size = 4 := rfl
     simp only [e4] at t2
     clear hc2 e4
     go_wp2
     exact ⟨⟨k + 1, _, by omega, by go_num, rfl, by first | trivial | rfl⟩, by simp [intOf]; omega⟩
    ·obtain rfl : k = m := by omega
     have hX2 : ¬ (k : Int) < k := by omega
     go_wp2
     exact ⟨⟨j + 1, _, by omega, by go_num, rfl, HE1.out⟩, by simp [intOf]; omega⟩
  ·obtain rfl : j = n := by omega
   have hX : ¬ (j : Int) < j := by omega
   go_wp2
   go_ret
   exact ⟨_, rfl, HE.out⟩
def Truth7 (w : World) (e : Ending) (w' : World) : Prop := ∃ b : Bool, e = .returned (.bool b) ∧ Ext w w'
theorem heavy7_any (w : World) (S S1 S2 : BS) (lv av bv : Value) (l : List Tk) (a b : Ac) (hl : Sl ETok w S lv l) (ha : AAt w S1 av a) (hb : AAt w S2 bv b) :
  Calls Tryd.prog 16 #[lv, av, bv] w (Truth7 w) := by
 obtain ⟨A, c, rfl, hlc, hcm⟩ := hl.shape
 unfold maxLen at hcm
 obtain ⟨p1, v1, rfl, a1, a2⟩ := ha
 obtain ⟨p2, v2, rfl, b1, b2⟩ := hb
 obtain ⟨Aa, ca, rfl, _⟩ := a1.shape
 obtain ⟨Av, cv, rfl, _⟩ := a2.shape
 obtain ⟨Ba, da, rfl, _⟩ := b1.shape
 obtain ⟨Bv, dv, rfl, _⟩ := b2.shape
 obtain ⟨W, hW⟩ : ∃ W, (w.alloc (.cells (acCells a (.slice Aa a.path.length ca) (.slice Av a.v.length cv)) TACT)).alloc (.cells (acCells b (.slice Ba b.path.length da) (.slice Bv b.v.length dv)) TACT) = W := ⟨_, rfl⟩
 have hE : Ext w W := by rw [← hW]; exact ((Keep.refl _ _).alloc _).alloc _
 have hba : Blk W w.heap.size TACT (acCells a (.slice Aa a.path.length ca) (.slice Av a.v.length cv)) := by rw [← hW]; exact (Blk.new _ _ _).alloc _
 have hbb : Blk W (w.heap.size + 1) TACT (acCells b (.slice Ba b.path.length da) (.slice Bv b.v.length dv)) := by
  have := Blk.new (w.alloc (.cells (acCells a (.slice Aa a.path.length ca) (.slice Av a.v.length cv)) TACT)) TACT (acCells b (.slice Ba b.path.length da) (.slice Bv b.v.length dv))
  rw [World.size_alloc, hW] at this
  exact this
 have H := hid (hl.ext ETok.ok hE)
 have HA1 := hid ((a1.more (S' := fun _ => True) EU8.ok fun _ _ _ => trivial).ext EU8.ok hE)
 have HA2 := hid ((a2.more (S' := fun _ => True) ETok.ok fun _ _ _ => trivial).ext ETok.ok hE)
 have HB1 := hid ((b1.more (S' := fun _ => True) EU8.ok fun _ _ _ => trivial).ext EU8.ok hE)
 have HB2 := hid ((b2.more (S' := fun _ => True) ETok.ok fun _ _ _ => trivial).ext ETok.ok hE)
 have HE := hid hE
 obtain ⟨n, hn⟩ : ∃ n, l.length = n := ⟨_, rfl⟩
 rw [hn] at H hlc ⊢
 have HN := hid hn
 obtain ⟨x0, x1, x2, x3, x4, x5, x6⟩ := sq7 hba
 obtain ⟨y0, y1, y2, y3, y4, y5, y6⟩ := sq7 hbb
 have hRow : ∀ w1 : World, Ext W w1 → Sl EAc (w1.alloc (.cells #[.slice Aa a.path.length ca, U8 a.kind, .int .i64 a.i, .int .i64 a.j, .int .i64 a.n, .string a.s, .slice Av a.v.length cv, .slice Ba b.path.length da, U8 b.kind, .int .i64 b.i, .int .i64 b.j, .int .i64 b.n, .string b.s, .slice Bv b.v.length dv] TACT)) (fun _ => True) (.slice (some ⟨w1.heap.size, 0, none⟩) 2 2) [a, b] := fun w1 h => by
  have he := h.ext ((Keep.refl (fun _ => False) w1).alloc (.cells #[.slice Aa a.path.length ca, U8 a.kind, .int .i64 a.i, .int .i64 a.j, .int .i64 a.n, .string a.s, .slice Av a.v.length cv, .slice Ba b.path.length da, U8 b.kind, .int .i64 b.i, .int .i64 b.j, .int .i64 b.n, .string b.s, .slice Bv b.v.length dv] TACT))
  refine ⟨[_, _, _, _, _, _, _, _, _, _, _, _, _, _], (RowS.new (w := w1) (t := TACT) (sz := 7) (n := 2) (cs := [_, _, _, _, _, _, _, _, _, _, _, _, _, _]) rfl (by simp [maxLen])).more fun _ _ _ => trivial, ?_⟩
  exact ⟨[_, _, _, _, _, _, _], [_, _, _, _, _, _, _], rfl, ⟨_, _, rfl, HA1.out.ext EU8.ok he, HA2.out.ext ETok.ok he⟩, ⟨[_, _, _, _, _, _, _], [], rfl, ⟨_, _, rfl, HB1.out.ext EU8.ok he, HB2.out.ext ETok.ok he⟩, rfl⟩⟩
 have HROW := hid hRow
 clear hl a1 a2 b1 b2 hE hba hbb hn hRow
 go_enter Tryd.func16, Tryd.ntmps16
 go_wp2_with fail
 go_loopw [7, 8] (fun y i wr => ∃ (j : Nat) (z : Int), j ≤ n ∧ i = .int .i64 j ∧ y = .int .i64 z ∧ wr = W) (fun _ i _ => n - (intOf i).toNat)
 case atStart => exact ⟨0, 0, by omega, rfl, rfl, rfl⟩
 case round =>
  obtain ⟨j, z, hj, rfl, rfl, rfl⟩ := hrel
  by_cases hlt : j < n
  ·have hX : (j : Int) < n := by omega
   obtain ⟨b2, o2, c2, rfl, _, _, hr2, hc2⟩ := H.out.at_ ETok.ok (k := j) (by rw [HN.out]; exact hlt)
   have hr2 : c2 = [U8 _, .int .i64 _, .string _, U8 _] := hr2
   subst hr2
   have t2 := hc2 2 _ rfl
   have e4 : ETok.size = 4 := rfl
   simp only [e4] at t2
   clear hc2 e4
   go_wp2
   exact ⟨⟨j + 1, _, by omega, by go_num, rfl, by first | trivial | rfl⟩, by simp [intOf]; omega⟩
  ·obtain rfl : j = n := by omega
   have hX : ¬ (j : Int) < j := by omega
   by_cases hz : (2000 : Int) < z
   ·go_wp2
    go_ret
    exact ⟨_, rfl, HE.out⟩
   ·have HR := hid (HROW.out _ (Keep.refl _ _))
    have HEA := hid ((Keep.refl (fun _ => False) wr).alloc (.cells #[.slice Aa a.path.length ca, U8 a.kind, .int .i64 a.i, .int .i64 a.j, .int .i64 a.n, .string a.s, .slice Av a.v.length cv, .slice Ba b.path.length da, U8 b.kind, .int .i64 b.i, .int .i64 b.j, .int .i64 b.n, .string b.s, .slice Bv b.v.length dv] TACT))
    go_wp2_with fail
    refine (heavy6_any _ _ _ _ HR.out).mono ?_
    rintro e w2 ⟨z2, rfl, hE2⟩
    have HE2 := hid ((HE.out.ext HEA.out).ext hE2)
    clear hE2
    go_wp2
    go_ret
    exact ⟨_, rfl, HE2.out⟩
abbrev cmpV (k : Value) (p key : Value) (i j : Int) (nn v0 v1 v2 v3 v4 s : Value) : Value := .agg #[k, p, key, .int .i64 i, .int .i64 j, nn, v0, v1, v2, v3, v4, s]
def knownL (k : UInt8) : Bool := k == 4 || k == 5 || k == 6 || k == 7
def bl (a b : Int) : Int := if a < b then 1 else 0
def up (a b : Int) (same : Bool) : Int := if a = b ∧ same = true then 1 else bl a b
theorem bl_bd (a b : Int) : 0 ≤ bl a b ∧ bl a b ≤ 1 := by unfold bl; split <;> omega
theorem up_bd (a b : Int) (s : Bool) : 0 ≤ up a b s ∧ up a b s ≤ 1 := by unfold up; split; omega; exact bl_bd a b
theorem kind_cases (k : UInt8) : k = 4 ∨ k = 5 ∨ k = 6 ∨ k = 7 ∨ (knownL k = false ∧ ((k.toNat : Int) == 4) = false ∧ ((k.toNat : Int) == 5) = false ∧ ((k.toNat : Int) == 6) = false ∧ ((k.toNat : Int) == 7) = false) := by
 by_cases h4 : k = 4
 ·exact .inl h4
 by_cases h5 : k = 5
 ·exact .inr (.inl h5)
 by_cases h6 : k = 6
 ·exact .inr (.inr (.inl h6))
 by_cases h7 : k = 7
 ·exact .inr (.inr (.inr (.inl h7)))
 have hn : ∀ n : Nat, n < 256 → k ≠ UInt8.ofNat n → ((k.toNat : Int) == (n : Int)) = false := fun n hn h => by
  simp only [beq_eq_false_iff_ne, ne_eq]
  intro e
  apply h
  apply UInt8.toNat.inj
  simp; omega
 exact .inr (.inr (.inr (.inr ⟨by simp [knownL, h4, h5, h6, h7], hn 4 (by omega) h4, hn 5 (by omega) h5, hn 6 (by omega) h6, hn 7 (by omega) h7⟩)))
theorem known_any (k : UInt8) (p key nn v0 v1 v2 v3 v4 s : Value) (i j : Int) (w : World) :
  Calls Tryd.prog 81 #[cmpV (U8 k) p key i j nn v0 v1 v2 v3 v4 s] w fun e w' => e = .returned (.bool (knownL k)) ∧ Ext w w' := by
 rcases kind_cases k with rfl | rfl | rfl | rfl | ⟨h0, h4, h5, h6, h7⟩
 all_goals
  go_enter Tryd.func81, Tryd.ntmps81
  go_wp2
  go_ret
  exact ⟨by first | rfl | (rw [h0]; rfl), (Keep.refl _ _).alloc _⟩
theorem below_any (a b : Int) (w : World) : Calls Tryd.prog 80 #[.int .i64 a, .int .i64 b] w fun e w' => e = .returned (.int .i64 (bl a b)) ∧ w = w' := by
 unfold bl
 by_cases h : a < b
 all_goals
  go_enter Tryd.func80, Tryd.ntmps80
  go_wp2
  go_ret
  exact ⟨by simp [h], rfl⟩
theorem upto_any (a b : Int) (s : Bool) (w : World) : Calls Tryd.prog 79 #[.int .i64 a, .int .i64 b, .bool s] w fun e w' => e = .returned (.int .i64 (up a b s)) ∧ w = w' := by
 by_cases h : a = b
 ·subst h
  have hb : (a == a) = true := by simp
  cases s
  all_goals
   go_enter Tryd.func79, Tryd.ntmps79
   go_wp2_with (go_at_call 80; refine (below_any _ _ _).mono ?_; rintro e w' ⟨rfl, rfl⟩)
   go_ret
   exact ⟨by simp [up, bl], rfl⟩
 ·have hb : (a == b) = false := by simpa using h
  cases s
  all_goals
   go_enter Tryd.func79, Tryd.ntmps79
   go_wp2_with (go_at_call 80; refine (below_any _ _ _).mono ?_; rintro e w' ⟨rfl, rfl⟩)
   go_ret
   exact ⟨by simp [up, h], rfl⟩
def Sm (a : Int) : Prop := -1099511627776 ≤ a ∧ a ≤ 1099511627776
def atL (k : UInt8) (ci cj i : Int) : Int × Bool :=
 if k = 4 then (i + up ci i true, true)
 else if k = 7 ∧ ci = i then (cj, true)
 else if k = 7 then (i - bl ci i + up cj (i - bl ci i) true, true)
 else if (k = 5 ∨ k = 6) ∧ ci = i then (0, false)
 else if k = 5 then (i - bl ci i, true)
 else (i, true)
theorem at_any (k : UInt8) (p key nn v0 v1 v2 v3 v4 s : Value) (ci cj i : Int) (w : World) (hi : Sm i) (hci : Sm ci) (hcj : Sm cj) :
  Calls Tryd.prog 56 #[.int .i64 i, cmpV (U8 k) p key ci cj nn v0 v1 v2 v3 v4 s] w fun e w' => e = .returned (.tuple #[.int .i64 (atL k ci cj i).1, .bool (atL k ci cj i).2]) ∧ Ext w w' := by
 obtain ⟨hi1, hi2⟩ := hi
 obtain ⟨hci1, hci2⟩ := hci
 obtain ⟨hcj1, hcj2⟩ := hcj
 have hu1 := up_bd ci i true
 have hb1 := bl_bd ci i
 have hu2 := up_bd cj (i - bl ci i) true
 by_cases he : ci = i
 ·have he' : (ci == i) = true := by simpa using he
  have he2 : (i == i) = true := by simp
  rcases kind_cases k with rfl | rfl | rfl | rfl | ⟨h0, h4, h5, h6, h7⟩
  case' inr.inr.inr.inr => have HK := hid (show k ≠ 4 ∧ k ≠ 5 ∧ k ≠ 6 ∧ k ≠ 7 from by simp [knownL] at h0; exact ⟨h0.1.1.1, h0.1.1.2, h0.1.2, h0.2⟩)
  all_goals
   subst he
   go_enter Tryd.func56, Tryd.ntmps56
   go_wp2_with (first | (go_at_call 80; refine (below_any _ _ _).mono ?_; rintro e w' ⟨rfl, rfl⟩) | (go_at_call 79; refine (upto_any _ _ _ _).mono ?_; rintro e w' ⟨rfl, rfl⟩))
   go_ret2
   first | (obtain ⟨k4, k5, k6, k7⟩ := HK.out; exact ⟨by simp [atL, k4, k5, k6, k7], (Keep.refl _ _).alloc _⟩) | exact ⟨by simp [atL], (Keep.refl _ _).alloc _⟩
 ·have he' : (ci == i) = false := by simpa using he
  have HNE := hid he
  clear he
  rcases kind_cases k with rfl | rfl | rfl | rfl | ⟨h0, h4, h5, h6, h7⟩
  case' inr.inr.inr.inr => have HK := hid (show k ≠ 4 ∧ k ≠ 5 ∧ k ≠ 6 ∧ k ≠ 7 from by simp [knownL] at h0; exact ⟨h0.1.1.1, h0.1.1.2, h0.1.2, h0.2⟩)
  all_goals
   go_enter Tryd.func56, Tryd.ntmps56
   go_wp2_with (first | (go_at_call 80; refine (below_any _ _ _).mono ?_; rintro e w' ⟨rfl, rfl⟩) | (go_at_call 79; refine (upto_any _ _ _ _).mono ?_; rintro e w' ⟨rfl, rfl⟩))
   go_ret2
   first | (obtain ⟨k4, k5, k6, k7⟩ := HK.out; exact ⟨by simp [atL, HNE.out, k4, k5, k6, k7], (Keep.refl _ _).alloc _⟩) | exact ⟨by simp [atL, HNE.out], (Keep.refl _ _).alloc _⟩
def famN (k : Nat) : Nat := if k = 1 then 2 else if k = 2 ∨ k = 3 then 5 else if k = 4 ∨ k = 5 ∨ k = 6 ∨ k = 7 then 4 else if k = 8 ∨ k = 9 then 3 else 0
theorem family_ok (w : World) (k : UInt8) (p key i j n v0 v1 v2 v3 v4 s : Value) :
  Calls Tryd.prog 55 #[.agg #[U8 k, p, key, i, j, n, v0, v1, v2, v3, v4, s]] w fun e w' => e = .returned (.int .u8 (famN k.toNat : Int)) ∧ Ext w w' := by
 have hE : Ext w (w.alloc (.cells #[U8 k, p, key, i, j, n, v0, v1, v2, v3, v4, s] TCMP)) := (Keep.refl _ _).alloc _
 have HE := hid hE
 clear hE
 obtain ⟨q, hq⟩ : ∃ q, k.toNat = q := ⟨_, rfl⟩
 have hc : q = 1 ∨ q = 2 ∨ q = 3 ∨ q = 4 ∨ q = 5 ∨ q = 6 ∨ q = 7 ∨ q = 8 ∨ q = 9 ∨ (q ≠ 1 ∧ q ≠ 2 ∧ q ≠ 3 ∧ q ≠ 4 ∧ q ≠ 5 ∧ q ≠ 6 ∧ q ≠ 7 ∧ q ≠ 8 ∧ q ≠ 9) := by omega
 rw [show U8 k = .int .u8 (q : Int) from by rw [← hq]] at *
 have hfam : famN k.toNat = famN q := by rw [hq]
 rw [hfam]
 clear hq hfam
 rcases hc with rfl | rfl | rfl | rfl | rfl | rfl | rfl | rfl | rfl | ⟨h1, h2, h3, h4, h5, h6, h7, h8, h9⟩
 case' inr.inr.inr.inr.inr.inr.inr.inr.inr =>
  have g1 : ((q : Int) == 1) = false := by simp; omega
  have g2 : ((q : Int) == 2) = false := by simp; omega
  have g3 : ((q : Int) == 3) = false := by simp; omega
  have g4 : ((q : Int) == 4) = false := by simp; omega
  have g5 : ((q : Int) == 5) = false := by simp; omega
  have g6 : ((q : Int) == 6) = false := by simp; omega
  have g7 : ((q : Int) == 7) = false := by simp; omega
  have g8 : ((q : Int) == 8) = false := by simp; omega
  have g9 : ((q : Int) == 9) = false := by simp; omega
  have HF := hid (show famN q = 0 from by unfold famN; rw [if_neg h1, if_neg (by omega), if_neg (by omega), if_neg (by omega)])
  clear h1 h2 h3 h4 h5 h6 h7 h8 h9
 all_goals
  go_enter Tryd.func55, Tryd.ntmps55
  go_wp2
  go_ret
  first | exact ⟨rfl, HE.out⟩ | (rw [HF.out]; exact ⟨rfl, HE.out⟩)
def StepAt (w : World) (g o : Nat) (s : St) : Prop := w.cell? ⟨g, o, none⟩ = some (.bool s.list) ∧ w.cell? ⟨g, o + 1, none⟩ = some (.int .i64 s.i) ∧ w.cell? ⟨g, o + 2, none⟩ = some (.string s.key) ∧ w.frozen? ⟨g, o + 1, none⟩ = false
def thrL (s : St) (y : Cp) : Int × Bool :=
 if famN y.kind.toNat = 5 ∧ s.list = false then (s.i, s.key.toList != y.key.toList) else if famN y.kind.toNat = 4 ∧ s.list = true then atL y.kind y.i y.j s.i else (s.i, true)
def ThrIs (w : World) (g o : Nat) (s : St) (y : Cp) (e : Ending) (w' : World) : Prop :=
 e = .returned (.bool (thrL s y).2) ∧ ∃ w1, Ext w w1 ∧ (w' = w1.setCell ⟨g, o + 1, none⟩ (.int .i64 (thrL s y).1) ∨ (w' = w1 ∧ (thrL s y).1 = s.i))
theorem through_ok (w : World) (g o : Nat) (s : St) (y : Cp) (p v0 v1 v2 v3 v4 : Value) (hs : StepAt w g o s) (hsi : Sm s.i) (hyi : Sm y.i) (hyj : Sm y.j) :
  Calls Tryd.prog 27 #[.pointer (some ⟨g, o, none⟩), .agg #[U8 y.kind, p, .string y.key, .int .i64 y.i, .int .i64 y.j, .int .i64 y.n, v0, v1, v2, v3, v4, .string y.s]] w (ThrIs w g o s y) := by
 obtain ⟨h0, h1, h2, h3⟩ := hs
 obtain ⟨W, hW⟩ : ∃ W, w.alloc (.cells #[U8 y.kind, p, .string y.key, .int .i64 y.i, .int .i64 y.j, .int .i64 y.n, v0, v1, v2, v3, v4, .string y.s] TCMP) = W := ⟨_, rfl⟩
 have hE : Ext w W := by rw [← hW]; exact (Keep.refl _ _).alloc _
 have hb : Blk W w.heap.size TCMP #[U8 y.kind, p, .string y.key, .int .i64 y.i, .int .i64 y.j, .int .i64 y.n, v0, v1, v2, v3, v4, .string y.s] := by rw [← hW]; exact Blk.new _ _ _
 have hlt := lt_of_cell h1
 have HH0 := hid ((hE.cell (lt_of_cell h0) id).trans h0)
 have HH1 := hid ((hE.cell (lt_of_cell h1) id).trans h1)
 have HH2 := hid ((hE.cell (lt_of_cell h2) id).trans h2)
 have HH3 := hid (show W.frozen? ⟨g, o + 1, none⟩ = false from by rw [hE.frozen hlt id]; exact h3)
 have HB := hid hb
 have HE := hid hE
 have HSI := hid hsi
 have HYI := hid hyi
 have HYJ := hid hyj
 have a0 := hb.cell 0
 have a1 := hb.cell 1
 have a2 := hb.cell 2
 have a3 := hb.cell 3
 have a4 := hb.cell 4
 have a5 := hb.cell 5
 have a6 := hb.cell 6
 have a7 := hb.cell 7
 have a8 := hb.cell 8
 have a9 := hb.cell 9
 have a10 := hb.cell 10
 have a11 := hb.cell 11
 simp at a2 a3 a4 a5 a11
 clear h0 h1 h2 h3 hb hE hlt hsi hyi hyj
 go_enter Tryd.func27, Tryd.ntmps27
 go_wp2_with fail
 refine (family_ok W y.kind _ _ _ _ _ _ _ _ _ _ _).mono ?_
 rintro e w1 ⟨rfl, hE1⟩
 obtain ⟨f, hf⟩ : ∃ f, famN y.kind.toNat = f := ⟨_, rfl⟩
 have HF := hid hf
 rw [hf]
 have h0 := (hE1.cell (lt_of_cell HH0.out) id).trans HH0.out
 have h1 := (hE1.cell (lt_of_cell HH1.out) id).trans HH1.out
 have h2 := (hE1.cell (lt_of_cell HH2.out) id).trans HH2.out
 have h3 : w1.frozen? ⟨g, o + 1, none⟩ = false := by rw [hE1.frozen (lt_of_cell HH1.out) id]; exact HH3.out
 have HB1 := hid (HB.out.keep hE1 id)
 have HE1 := hid (HE.out.ext hE1)
 clear hf hE1 HB HE HH0 HH1 HH2 HH3 hW a0 a1 a2 a3 a4 a5 a6 a7 a8 a9 a10 a11
 have a0 := HB1.out.cell 0
 have a1 := HB1.out.cell 1
 have a2 := HB1.out.cell 2
 have a3 := HB1.out.cell 3
 have a4 := HB1.out.cell 4
 have a5 := HB1.out.cell 5
 have a6 := HB1.out.cell 6
 have a7 := HB1.out.cell 7
 have a8 := HB1.out.cell 8
 have a9 := HB1.out.cell 9
 have a10 := HB1.out.cell 10
 have a11 := HB1.out.cell 11
 simp at a2 a3 a4 a5 a11
 by_cases h5 : f = 5
 ·subst h5
  cases hl : s.list with
  | false =>
   rw [hl] at h0
   go_wp2_with fail
   refine wp_region_grow (specOf []) (fun w' => Ext w1 w') stable_nil (stableC_ext _) (by kernel_rfl) (by kernel_rfl) (Keep.drew (Keep.refl _ _)) ?_
   iterate 8
    (try simp only [Act.put, sqa, sqb, sqc])
    refine grow_run rfl rfl rfl ?_
    apply Exists.intro
    refine ⟨fun w' hC hK => ?_, ?_⟩
    ·have h2 := sqw hC h2
     have a2 := sqw hC a2
     go_simp
     rfl
   refine grow_nil fun w2 hC _ => ?_
   have HC := hid (show Ext w1 w2 from hC)
   clear hC
   go_wp2
   go_ret
   have ht : thrL s y = (s.i, s.key.toList != y.key.toList) := by unfold thrL; rw [if_pos ⟨HF.out, hl⟩]
   exact ⟨by rw [ht]; rfl, w2, HE1.out.ext HC.out, .inr ⟨rfl, by rw [ht]⟩⟩
  | true =>
   rw [hl] at h0
   go_wp2
   go_ret
   have ht : thrL s y = (s.i, true) := by unfold thrL; rw [if_neg (by rw [hl]; simp), if_neg (by rw [HF.out]; simp)]
   exact ⟨by rw [ht]; rfl, w1, HE1.out, .inr ⟨rfl, by rw [ht]⟩⟩
 ·have h5X : ((f : Int) == 5) = false := by simp; omega
  by_cases h4 : f = 4
  ·subst h4
   cases hl : s.list with
   | false =>
    rw [hl] at h0
    go_wp2
    go_ret
    have ht : thrL s y = (s.i, true) := by unfold thrL; rw [if_neg (by rw [HF.out]; simp), if_neg (by rw [hl]; simp)]
    exact ⟨by rw [ht]; rfl, w1, HE1.out, .inr ⟨rfl, by rw [ht]⟩⟩
   | true =>
    rw [hl] at h0
    go_wp2_with fail
    obtain ⟨r, hr⟩ : ∃ r, atL y.kind y.i y.j s.i = r := ⟨_, rfl⟩
    have HRR := hid hr
    have HCALL := hid (fun w' => at_any y.kind p (.string y.key) (.int .i64 y.n) v0 v1 v2 v3 v4 (.string y.s) y.i y.j s.i w' HSI.out HYI.out HYJ.out)
    rw [hr] at HCALL
    clear hr
    refine wp_region_parts [] [0, 1, 2, 3, 4, 5, 6, 7, 8, 9, 10] [] (specOf [(5, fun v w' => v = .tuple #[.int .i64 r.1, .bool r.2])]) (fun w' => Ext w1 w') (stable_cons (fun v w w' h he => h) stable_nil) (stableC_ext _) (by kernel_rfl) (by kernel_rfl) (Keep.drew (Keep.refl _ _)) ?_
    refine pure_nil ?_
    iterate 5
     (try simp only [Act.put, sqa, sqb, sqc])
     refine growP_run rfl rfl rfl ?_
     apply Exists.intro
     refine ⟨fun w' hC hK => ?_, ?_⟩
     ·have h1 := sqw hC h1
      have a0 := sqw hC a0
      have a1 := sqw hC a1
      have a2 := sqw hC a2
      have a3 := sqw hC a3
      have a4 := sqw hC a4
      have a5 := sqw hC a5
      have a6 := sqw hC a6
      have a7 := sqw hC a7
      have a8 := sqw hC a8
      have a9 := sqw hC a9
      have a10 := sqw hC a10
      have a11 := sqw hC a11
      go_simp
      rfl
    (try simp only [Act.put, sqa, sqb, sqc])
    refine growP_eff rfl rfl rfl (fun w' hC hK => ?_) (fun v5 hv5 => ?_)
    ·unfold growAt
     go_simp
     refine grow_call ((HCALL.out w').mono ?_)
     rintro e w'' ⟨rfl, h2⟩
     exact ⟨_, rfl, h2, rfl⟩
    obtain ⟨_, _, rfl⟩ := hv5.head
    iterate 5
     (try simp only [Act.put, sqa, sqb, sqc])
     refine growP_run rfl rfl rfl ?_
     apply Exists.intro
     refine ⟨fun w' hC hK => ?_, ?_⟩
     ·go_simp
      rfl
    refine growP_nil fun w2 hC hK => ?_
    have hC : Ext w1 w2 := hC
    have HC := hid hC
    have h3' : w2.frozen? ⟨g, o + 1, none⟩ = false := by rw [hC.frozen (lt_of_cell h1) id]; exact h3
    replace h1 := sqw hC h1
    clear hC hK
    change wpList _ _ _ [] _ _
    (try simp only [Act.put, sqa, sqb, sqc])
    refine NoPanic.normal ?_
    go_wp2
    go_ret
    have ht : thrL s y = r := by unfold thrL; rw [if_neg (by rw [HF.out]; simp), if_pos ⟨HF.out, hl⟩, HRR.out]
    exact ⟨by rw [ht]; rfl, w2, HE1.out.ext HC.out, .inl (by rw [ht])⟩
  ·have h4X : ((f : Int) == 4) = false := by simp; omega
   go_wp2
   go_ret
   have ht : thrL s y = (s.i, true) := by unfold thrL; rw [if_neg (fun h => h5 (HF.out.symm.trans h.1)), if_neg (fun h => h4 (HF.out.symm.trans h.1))]
   exact ⟨by rw [ht]; rfl, w1, HE1.out, .inr ⟨rfl, by rw [ht]⟩⟩
end Go.Proofs.YtioplgfopillnaaDoor
