/- TurnU: laid together. -/
import Derived.Test.YtioplgfopillnaaDoorTtB18
import Derived.Test.YtioplgfopillnaaDoorTtB21
import Derived.Test.YtioplgfopillnaaDoorTtB22
import Derived.Test.YtioplgfopillnaaDoorTtB23
/- The reference's Turn by contract: the same list of components as turn.Turn's. -/
set_option linter.unusedSimpArgs false
set_option linter.unusedVariables false
namespace Go.Proofs.YtioplgfopillnaaDoor
open Go.RowKit
set_option linter.unusedVariables false

theorem bes_list {w X w' : World} {S : BS} {l : List Cp} {e : Ending} (hE : Ext w X) (h : BesIs X S l e w') : TList w l e w' := by
  obtain ⟨v, rfl, ho, hE2⟩ := h
  exact ⟨v, rfl, (Own.sl ECp.ok ho).lt_, hE.ext hE2⟩
theorem rbel_list {w X w' : World} {base g cap k : Nat} {x y : Cp} {s : St} {lv ov : Value} {e : Ending} (hE : Ext w X) (hg : w.heap.size ≤ g) (h2 : Sl EVal X (fun k => k ≠ g) lv x.v.l) (h3 : Sl EField X (fun k => k ≠ g) ov x.v.o)
    (h : RBelIs X base g cap k x y s lv ov e w') : TList w (if (thrL s y).2 = true then [{ x with path := x.path.set k { s with i := (thrL s y).1 } }] else []) e w' := by
  unfold RBelIs at h
  generalize thrL s y = r at *
  obtain ⟨r1, r2⟩ := r
  cases r2 with
  | false =>
    rw [if_neg (by simp)]
    rcases h with ⟨h1, h4, h5⟩ | ⟨h1, _⟩
    · exact ⟨_, h4, Sl.nil _ _, hE.ext h5⟩
    · cases h1
  | true =>
    rw [if_pos rfl]
    rcases h with ⟨h1, _⟩ | ⟨_, b, rfl, hb, hbl, ho, hk⟩
    · cases h1
    · have hp := (Own.sl ESt.ok ho).more (S' := fun _ => True) ESt.ok fun _ _ _ => trivial
      have h2' := (h2.keep EVal.ok hk fun k h e => h e).more (S' := fun _ => True) EVal.ok fun _ _ _ => trivial
      have h3' := (h3.keep EField.ok hk fun k h e => h e).more (S' := fun _ => True) EField.ok fun _ _ _ => trivial
      have hr : RowS w' (fun _ => True) 12 (.slice (some ⟨b, 0, none⟩) 1 1) 1 (cpL x (.slice (some ⟨g, 0, none⟩) x.path.length cap) lv ov) := ⟨rfl, _, 1, rfl, Nat.le_refl _, by simp [maxLen], fun _ => ⟨b, 0, rfl, trivial, hbl.lt, fun j u hu => by rw [Nat.zero_add, hbl.cell]; simpa using hu⟩⟩
      have hs : Sl ECp w' (fun _ => True) (.slice (some ⟨b, 0, none⟩) 1 1) [({ x with path := x.path.set k { s with i := r1 } } : Cp)] := ⟨_, hr, Cells.single ⟨_, lv, ov, rfl, hp, h2', h3'⟩⟩
      exact ⟨_, rfl, hs.lt_, hE.trans hk fun k hk e => by omega⟩
theorem besL_ne {x y : Cp} {left : Bool} (h : famN x.kind.toNat ≠ famN y.kind.toNat) : besL x y left = [x] := by unfold besL; rw [if_pos h]
theorem besL_oth {x y : Cp} {left : Bool} (h3 : famN x.kind.toNat ≠ 3) (h4 : famN x.kind.toNat ≠ 4) (h5 : famN x.kind.toNat ≠ 5) : besL x y left = [x] := by
  unfold besL
  split
  · rfl
  · rw [if_neg (fun h => h5 h.1)]
theorem besL_key {x y : Cp} {left : Bool} (h5 : famN x.kind.toNat = 5) (hk : (x.key.toList == y.key.toList) = false) : besL x y left = [x] := by
  unfold besL
  split
  · rfl
  · rw [if_neg (by rw [h5]; decide), if_neg (by rw [h5]; decide), if_neg (by rw [hk]; simp)]
theorem besL_put {x y : Cp} {left : Bool} (h5 : famN x.kind.toNat = 5) (hf : (x.kind.toNat == 2 && (left || y.kind.toNat == 3)) = true) : besL x y left = [x] := by
  unfold besL
  split
  · rfl
  · rw [if_neg (by rw [h5]; decide), if_neg (by rw [h5]; decide), if_neg (by rw [hf]; simp)]
theorem besL_nil {x y : Cp} {left : Bool} (h5 : famN x.kind.toNat = 5) (h5' : famN y.kind.toNat = 5) (hk : (x.key.toList == y.key.toList) = true) (hf : (x.kind.toNat == 2 && (left || y.kind.toNat == 3)) = false) : besL x y left = [] := by
  unfold besL
  rw [if_neg (by rw [h5, h5']; simp), if_neg (by rw [h5]; decide), if_neg (by rw [h5]; decide), if_pos ⟨h5, hk, hf⟩]
theorem fam5 {k : UInt8} (h : famN k.toNat = 5) : k = 2 ∨ k = 3 := by
  have : k.toNat = 2 ∨ k.toNat = 3 := by
    unfold famN at h
    (repeat' split at h) <;> simp_all <;> omega
  rcases this with h | h
  · exact .inl (UInt8.toNat_inj.1 h)
  · exact .inr (UInt8.toNat_inj.1 h)
set_option maxRecDepth 20000 in
set_option maxHeartbeats 12800000 in
theorem rturn7_list (w : World) (S S2 : BS) (u t : Value) (x y : Cp) (left : Bool) (hx : CAt w S u x) (hy : CAt w S2 t y) (hf : Fit x) (bx : Bd x) (by_ : Bd y) (b : Bool) (hbb : b = true ↔ y.path <+: x.path) (hD : DecAny w) :
    Calls Tryd.prog 14 #[u, t, .bool left] w (TList w (turnC b x y left)) := by
  obtain ⟨hp, hv⟩ := hf
  obtain ⟨pv, lv, ov, rfl, h1, h2, h3⟩ := hx.cut
  obtain ⟨Ap, cp, rfl, _⟩ := h1.shape
  obtain ⟨Al, cl, rfl, _⟩ := h2.shape
  obtain ⟨Ao, co, rfl, _⟩ := h3.shape
  obtain ⟨qv, mv, nv, rfl, k1, k2, k3⟩ := hy.cut
  obtain ⟨Bp, dp, rfl, _⟩ := k1.shape
  obtain ⟨Bl, dl, rfl, _⟩ := k2.shape
  obtain ⟨Bo, do_, rfl, _⟩ := k3.shape
  obtain ⟨W, hW⟩ : ∃ W, (w.alloc (.cells (cpCells x (.slice Ap x.path.length cp) (.slice Al x.v.l.length cl) (.slice Ao x.v.o.length co)) TCMP)).alloc (.cells (cpCells y (.slice Bp y.path.length dp) (.slice Bl y.v.l.length dl) (.slice Bo y.v.o.length do_)) TCMP) = W := ⟨_, rfl⟩
  have hE : Ext w W := by rw [← hW]; exact ((Keep.refl _ _).alloc _).alloc _
  have hsz : W.heap.size = w.heap.size + 2 := by rw [← hW]; simp
  have hb : Blk W w.heap.size TCMP (cpCells x (.slice Ap x.path.length cp) (.slice Al x.v.l.length cl) (.slice Ao x.v.o.length co)) := by rw [← hW]; exact (Blk.new _ _ _).alloc _
  have hc : Blk W (w.heap.size + 1) TCMP (cpCells y (.slice Bp y.path.length dp) (.slice Bl y.v.l.length dl) (.slice Bo y.v.o.length do_)) := by
    have := Blk.new (w.alloc (.cells (cpCells x (.slice Ap x.path.length cp) (.slice Al x.v.l.length cl) (.slice Ao x.v.o.length co)) TCMP)) TCMP (cpCells y (.slice Bp y.path.length dp) (.slice Bl y.v.l.length dl) (.slice Bo y.v.o.length do_))
    rw [World.size_alloc, hW] at this
    exact this
  have HX := hid (show CAt W (fun k => k < w.heap.size) (.agg (cpCells x (.slice Ap x.path.length cp) (.slice Al x.v.l.length cl) (.slice Ao x.v.o.length co))) x from (CAt.ext ⟨_, _, _, rfl, h1, h2, h3⟩ hE).more fun k _ h => h.2)
  have HY := hid (show CAt W (fun k => k < w.heap.size) (.agg (cpCells y (.slice Bp y.path.length dp) (.slice Bl y.v.l.length dl) (.slice Bo y.v.o.length do_))) y from (CAt.ext ⟨_, _, _, rfl, k1, k2, k3⟩ hE).more fun k _ h => h.2)
  have HQ := hid ((k1.more (S' := fun k => k < w.heap.size) ESt.ok fun k _ h => h.2).ext ESt.ok hE)
  have HB := hid hb
  have HC := hid hc
  have HE := hid hE
  have a0 := hb.cell 0
  have a1 := hb.cell 1
  have a2 := hb.cell 2
  have a3 := hb.cell 3
  have a4 := hb.cell 4
  have a5 := hb.cell 5
  have a6 := hb.cell 6
  have a7 := hb.cell 7
  have a8 := hb.cell 8
  have a9 := hb.cell 9
  have a10 := hb.cell 10
  have a11 := hb.cell 11
  simp at a0 a1 a2 a3 a4 a5 a6 a7 a8 a9 a10 a11
  have BX := hid bx
  have BY := hid by_
  have HBB := hid hbb
  have HD := hid hD
  clear h1 h2 h3 k1 k2 k3 hE hb hc hx hy bx by_ hbb hD
  go_enter Tryd.func14, Tryd.ntmps14
  go_wp2_with fail
  refine (rcopy6 W _ _ x HX.out hp hv).mono ?_
  rintro e X1 ⟨pv2, lv2, ov2, rfl, g1, g2, g3, hE1⟩
  obtain ⟨Ap2, cp2, rfl, _⟩ := g1.shape
  obtain ⟨Al2, cl2, rfl, _⟩ := g2.shape
  obtain ⟨Ao2, co2, rfl, _⟩ := g3.shape
  have hs1 := hE1.size
  have hb := HB.out.keep hE1 id
  obtain ⟨X2, hX2⟩ : ∃ X2, ((((((((((((X1.setCell ⟨w.heap.size, 0, none⟩ (.int .u8 (x.kind.toNat : Int))).setCell ⟨w.heap.size, 1, none⟩ (.slice Ap2 x.path.length cp2)).setCell ⟨w.heap.size, 2, none⟩ (.string x.key)).setCell ⟨w.heap.size, 3, none⟩ (.int .i64 x.i)).setCell ⟨w.heap.size, 4, none⟩ (.int .i64 x.j)).setCell ⟨w.heap.size, 5, none⟩ (.int .i64 x.n)).setCell ⟨w.heap.size, 6, none⟩ (.int .u8 (x.v.kind.toNat : Int))).setCell ⟨w.heap.size, 7, none⟩ (.int .i64 x.v.n)).setCell ⟨w.heap.size, 8, none⟩ (.string x.v.s)).setCell ⟨w.heap.size, 9, none⟩ (.slice Al2 x.v.l.length cl2)).setCell ⟨w.heap.size, 10, none⟩ (.slice Ao2 x.v.o.length co2)).setCell ⟨w.heap.size, 11, none⟩ (.string x.s)) = X2 := ⟨_, rfl⟩
  have hk : Keep (· = w.heap.size) X1 X2 := by rw [← hX2]; exact (((((((((((((Keep.refl (· = w.heap.size) X1).set1 0 _).set1 1 _).set1 2 _).set1 3 _).set1 4 _).set1 5 _).set1 6 _).set1 7 _).set1 8 _).set1 9 _).set1 10 _).set1 11 _)
  have hb2 : Blk X2 w.heap.size TCMP (cpCells x (.slice Ap2 x.path.length cp2) (.slice Al2 x.v.l.length cl2) (.slice Ao2 x.v.o.length co2)) := by rw [← hX2]; exact set12f hb rfl (.int .u8 (x.kind.toNat : Int)) (.slice Ap2 x.path.length cp2) (.string x.key) (.int .i64 x.i) (.int .i64 x.j) (.int .i64 x.n) (.int .u8 (x.v.kind.toNat : Int)) (.int .i64 x.v.n) (.string x.v.s) (.slice Al2 x.v.l.length cl2) (.slice Ao2 x.v.o.length co2) (.string x.s)
  have HO := hid (g1.keep ESt.ok hk (fun _ h => h.elim) fun g e h => by have := (g1.lt e).1; omega)
  have HG2 := hid (g2.keep EVal.ok hk fun k h e => by have := h.1; omega)
  have HG3 := hid (g3.keep EField.ok hk fun k h e => by have := h.1; omega)
  have HB2 := hid hb2
  have HC2 := hid ((HC.out.keep hE1 id).keep hk (by omega))
  have HQ2 := hid ((HQ.out.ext ESt.ok hE1).keep ESt.ok hk fun k h e => by omega)
  have HY2 := hid ((HY.out.ext hE1).keep hk fun k h e => by omega)
  have HE2 := hid ((HE.out.ext hE1).trans hk fun k hk e => by omega)
  have HX2 := hid hX2
  have b0 := hb.cell 0
  have f0 := hb.frozen 0
  have b1 := hb.cell 1
  have f1 := hb.frozen 1
  have b2 := hb.cell 2
  have f2 := hb.frozen 2
  have b3 := hb.cell 3
  have f3 := hb.frozen 3
  have b4 := hb.cell 4
  have f4 := hb.frozen 4
  have b5 := hb.cell 5
  have f5 := hb.frozen 5
  have b6 := hb.cell 6
  have f6 := hb.frozen 6
  have b7 := hb.cell 7
  have f7 := hb.frozen 7
  have b8 := hb.cell 8
  have f8 := hb.frozen 8
  have b9 := hb.cell 9
  have f9 := hb.frozen 9
  have b10 := hb.cell 10
  have f10 := hb.frozen 10
  have b11 := hb.cell 11
  have f11 := hb.frozen 11
  simp at b0 b1 b2 b3 b4 b5 b6 b7 b8 b9 b10 b11
  have y1 := (HC.out.keep hE1 id).cell 1
  simp at y1
  clear hX2 hk hb2 hb g1 g2 g3 hE1 HB HC HQ HX HY a0 a1 a2 a3 a4 a5 a6 a7 a8 a9 a10 a11
  go_wp2_with fail
  rw [HX2.out]
  clear y1 b0 b1 b2 b3 b4 b5 b6 b7 b8 b9 b10 b11 f0 f1 f2 f3 f4 f5 f6 f7 f8 f9 f10 f11
  refine (rbegins_ok X2 _ _ _ _ _ _ (HO.out.sl ESt.ok) HQ2.out).mono ?_
  intro e X3 hbeg
  obtain ⟨rfl, hE3⟩ := hbeg.is b HBB.out
  have HO3 := hid (HO.out.ext ESt.ok hE3)
  have HS1 := hid ((HO3.out.sl ESt.ok).more (S' := fun _ => True) ESt.ok fun _ _ _ => trivial)
  have HS2 := hid ((HG2.out.ext EVal.ok hE3).more (S' := fun _ => True) EVal.ok fun _ _ _ => trivial)
  have HS3 := hid ((HG3.out.ext EField.ok hE3).more (S' := fun _ => True) EField.ok fun _ _ _ => trivial)
  have HG23 := hid (HG2.out.ext EVal.ok hE3)
  have HG33 := hid (HG3.out.ext EField.ok hE3)
  have HB3 := hid (HB2.out.keep hE3 id)
  have HY3 := hid (HY2.out.ext hE3)
  have HE3 := hid (HE2.out.ext hE3)
  have HC3 := hid (HC2.out.keep hE3 id)
  clear hbeg hE3 HB2 HO HG2 HG3 HQ2 HE2 HX2 HY2 HC2
  have b0 := HB3.out.cell 0
  have b1 := HB3.out.cell 1
  have b2 := HB3.out.cell 2
  have b3 := HB3.out.cell 3
  have b4 := HB3.out.cell 4
  have b5 := HB3.out.cell 5
  have b6 := HB3.out.cell 6
  have b7 := HB3.out.cell 7
  have b8 := HB3.out.cell 8
  have b9 := HB3.out.cell 9
  have b10 := HB3.out.cell 10
  have b11 := HB3.out.cell 11
  simp at b0 b1 b2 b3 b4 b5 b6 b7 b8 b9 b10 b11
  have z0 := HC3.out.cell 0
  have z1 := HC3.out.cell 1
  have z2 := HC3.out.cell 2
  have z3 := HC3.out.cell 3
  have z4 := HC3.out.cell 4
  have z5 := HC3.out.cell 5
  have z6 := HC3.out.cell 6
  have z7 := HC3.out.cell 7
  have z8 := HC3.out.cell 8
  have z9 := HC3.out.cell 9
  have z10 := HC3.out.cell 10
  have z11 := HC3.out.cell 11
  simp at z0 z1 z2 z3 z4 z5 z6 z7 z8 z9 z10 z11
  cases b with
  | false =>
    have HT := hid (show turnC false x y left = [x] from rfl)
    have HX3 := hid (Keep.refl (fun _ => False) X3)
    go_wp2
    go_ret
    rw [HT.out]
    exact bes_list HE3.out (bes_one HX3.out HS1.out HS2.out HS3.out rfl)
  | true =>
    by_cases hk : y.path.length < x.path.length
    · obtain ⟨g, cap, e, hg1, hg2, hg3, hg4⟩ := HO3.out.form (by omega)
      injection e with e1 e2 e3
      subst e1 e3
      have HGG := hid hg1
      have hkX : (y.path.length : Int) < x.path.length := by omega
      have HT := hid (show turnC true x y left = (if (thrL x.path[y.path.length] y).2 = true then [{ x with path := x.path.set y.path.length { x.path[y.path.length] with i := (thrL x.path[y.path.length] y).1 } }] else []) from by unfold turnC; rw [if_pos rfl, List.getElem?_eq_getElem hk])
      have HCL := hid (rbelow_ok X3 _ g cp2 y.path.length _ _ x y x.path[y.path.length] Al2 cl2 Ao2 co2 HO3.out HY3.out hk rfl rfl (BX.out.p _ (List.getElem_mem hk)) BY.out.i BY.out.j hp)
      have hx2 : Sl EVal X3 (fun k => k ≠ g) (.slice Al2 x.v.l.length cl2) x.v.l := HG23.out.more EVal.ok fun k _ h => fun e => h.2 (by subst e; rfl)
      have hx3 : Sl EField X3 (fun k => k ≠ g) (.slice Ao2 x.v.o.length co2) x.v.o := HG33.out.more EField.ok fun k _ h => fun e => h.2 (by subst e; rfl)
      have HX2 := hid hx2
      have HX3 := hid hx3
      have HWE := hid HE.out.size
      generalize x.path[y.path.length] = s at *
      clear hx2 hx3 hg1 hg2 hg3 hg4 hk
      go_wp2_with fail
      refine HCL.out.mono ?_
      intro e X4 h
      have hl := rbel_list HE3.out (by have := HGG.out; have := HWE.out; omega) HX2.out HX3.out h
      rw [← HT.out] at hl
      obtain ⟨v, rfl, hs, hE4⟩ := hl
      obtain ⟨A4, c4, rfl, _⟩ := hs.shape
      have HS := hid hs
      have HE4 := hid hE4
      clear h hs hE4 HCL b0 b1 b2 b3 b4 b5 b6 b7 b8 b9 b10 b11 z0 z1 z2 z3 z4 z5 z6 z7 z8 z9 z10 z11
      go_wp2
      go_ret
      exact ⟨_, rfl, HS.out, HE4.out⟩
    · have hle : y.path.length = x.path.length := by have := (HBB.out.1 rfl).length_le; omega
      have hkX : ¬ ((y.path.length : Int) < x.path.length) := by omega
      have hkE : ((x.path.length : Int) == (y.path.length : Int)) = true := by simp; omega
      have HT := hid (show turnC true x y left = besL x y left from by unfold turnC; rw [if_pos rfl, List.getElem?_eq_none (by omega)])
      obtain ⟨f, hf⟩ : ∃ f, famN x.kind.toNat = f := ⟨_, rfl⟩
      obtain ⟨g, hg⟩ : ∃ g, famN y.kind.toNat = g := ⟨_, rfl⟩
      have HF := hid hf
      have HG := hid hg
      have HX3 := hid (Keep.refl (fun _ => False) X3)
      clear hf hg hk hle HG23 HG33 HO3 HY3

      by_cases f5 : f = 5
      · subst f5
        have e55 : ((5 : Nat) == 5) = true := rfl
        have e54 : ((5 : Nat) == 4) = false := rfl
        have e53 : ((5 : Nat) == 3) = false := rfl
        go_wp2_with fail
        refine (rfield7_ok X3 x.kind _ _ _ _ _ _ _ _ _ _ _).mono ?_
        rintro e Z4 ⟨rfl, hE4⟩
        rw [HF.out]
        have HB4 := hid (HB3.out.keep hE4 id)
        have HC4 := hid (HC3.out.keep hE4 id)
        have HX4 := hid (HX3.out.ext hE4)
        clear hE4 HB3 HC3 HX3 b0 b1 b2 b3 b4 b5 b6 b7 b8 b9 b10 b11 z0 z1 z2 z3 z4 z5 z6 z7 z8 z9 z10 z11
        have b0 := HB4.out.cell 0
        have b1 := HB4.out.cell 1
        have b2 := HB4.out.cell 2
        have b3 := HB4.out.cell 3
        have b4 := HB4.out.cell 4
        have b5 := HB4.out.cell 5
        have b6 := HB4.out.cell 6
        have b7 := HB4.out.cell 7
        have b8 := HB4.out.cell 8
        have b9 := HB4.out.cell 9
        have b10 := HB4.out.cell 10
        have b11 := HB4.out.cell 11
        simp at b0 b1 b2 b3 b4 b5 b6 b7 b8 b9 b10 b11
        have z0 := HC4.out.cell 0
        have z1 := HC4.out.cell 1
        have z2 := HC4.out.cell 2
        have z3 := HC4.out.cell 3
        have z4 := HC4.out.cell 4
        have z5 := HC4.out.cell 5
        have z6 := HC4.out.cell 6
        have z7 := HC4.out.cell 7
        have z8 := HC4.out.cell 8
        have z9 := HC4.out.cell 9
        have z10 := HC4.out.cell 10
        have z11 := HC4.out.cell 11
        simp at z0 z1 z2 z3 z4 z5 z6 z7 z8 z9 z10 z11
        by_cases g5 : g = 5
        · subst g5
          go_wp2_with fail
          refine (rfield7_ok Z4 y.kind _ _ _ _ _ _ _ _ _ _ _).mono ?_
          rintro e Z5 ⟨rfl, hE4⟩
          rw [HG.out]
          have HB5 := hid (HB4.out.keep hE4 id)
          have HC5 := hid (HC4.out.keep hE4 id)
          have HX5 := hid (HX4.out.ext hE4)
          clear hE4 HB4 HC4 HX4 b0 b1 b2 b3 b4 b5 b6 b7 b8 b9 b10 b11 z0 z1 z2 z3 z4 z5 z6 z7 z8 z9 z10 z11
          have b0 := HB5.out.cell 0
          have b1 := HB5.out.cell 1
          have b2 := HB5.out.cell 2
          have b3 := HB5.out.cell 3
          have b4 := HB5.out.cell 4
          have b5 := HB5.out.cell 5
          have b6 := HB5.out.cell 6
          have b7 := HB5.out.cell 7
          have b8 := HB5.out.cell 8
          have b9 := HB5.out.cell 9
          have b10 := HB5.out.cell 10
          have b11 := HB5.out.cell 11
          simp at b0 b1 b2 b3 b4 b5 b6 b7 b8 b9 b10 b11
          have z0 := HC5.out.cell 0
          have z1 := HC5.out.cell 1
          have z2 := HC5.out.cell 2
          have z3 := HC5.out.cell 3
          have z4 := HC5.out.cell 4
          have z5 := HC5.out.cell 5
          have z6 := HC5.out.cell 6
          have z7 := HC5.out.cell 7
          have z8 := HC5.out.cell 8
          have z9 := HC5.out.cell 9
          have z10 := HC5.out.cell 10
          have z11 := HC5.out.cell 11
          simp at z0 z1 z2 z3 z4 z5 z6 z7 z8 z9 z10 z11
          cases hkey : (x.key.toList == y.key.toList) with
          | true =>
            have HKEY := hid hkey
            obtain ⟨kx, hkx⟩ : ∃ kx, x.kind = kx := ⟨_, rfl⟩
            obtain ⟨ky, hky⟩ : ∃ ky, y.kind = ky := ⟨_, rfl⟩
            have hfx := fam5 HF.out
            have hfy := fam5 HG.out
            rw [hkx] at hfx b0
            rw [hky] at hfy z0
            have HKX := hid hkx
            have HKY := hid hky
            clear hkx hky
            rcases hfx with rfl | rfl
            · rcases hfy with rfl | rfl
              · cases left with
                | true =>
                  have hB := bes_list HE3.out (bes_one (x := x) HX5.out HS1.out HS2.out HS3.out rfl)
                  dsimp only [cpCells] at hB
                  rw [HKX.out] at hB
                  have HBN := hid hB
                  clear hB
                  go_wp2
                  go_ret
                  rw [HT.out, besL_put HF.out (by rw [HKX.out, HKY.out]; rfl)]
                  exact HBN.out
                | false =>
                  go_wp2
                  go_ret
                  rw [HT.out, besL_nil HF.out HG.out HKEY.out (by rw [HKX.out, HKY.out]; rfl)]
                  exact ⟨_, rfl, Sl.nil _ _, HE3.out.ext HX5.out⟩
              · cases left with
                | true =>
                  have hB := bes_list HE3.out (bes_one (x := x) HX5.out HS1.out HS2.out HS3.out rfl)
                  dsimp only [cpCells] at hB
                  rw [HKX.out] at hB
                  have HBN := hid hB
                  clear hB
                  go_wp2
                  go_ret
                  rw [HT.out, besL_put HF.out (by rw [HKX.out, HKY.out]; rfl)]
                  exact HBN.out
                | false =>
                  have hB := bes_list HE3.out (bes_one (x := x) HX5.out HS1.out HS2.out HS3.out rfl)
                  dsimp only [cpCells] at hB
                  rw [HKX.out] at hB
                  have HBN := hid hB
                  clear hB
                  go_wp2
                  go_ret
                  rw [HT.out, besL_put HF.out (by rw [HKX.out, HKY.out]; rfl)]
                  exact HBN.out
            · rcases hfy with rfl | rfl
              · cases left with
                | true =>
                  go_wp2
                  go_ret
                  rw [HT.out, besL_nil HF.out HG.out HKEY.out (by rw [HKX.out, HKY.out]; rfl)]
                  exact ⟨_, rfl, Sl.nil _ _, HE3.out.ext HX5.out⟩
                | false =>
                  go_wp2
                  go_ret
                  rw [HT.out, besL_nil HF.out HG.out HKEY.out (by rw [HKX.out, HKY.out]; rfl)]
                  exact ⟨_, rfl, Sl.nil _ _, HE3.out.ext HX5.out⟩
              · cases left with
                | true =>
                  go_wp2
                  go_ret
                  rw [HT.out, besL_nil HF.out HG.out HKEY.out (by rw [HKX.out, HKY.out]; rfl)]
                  exact ⟨_, rfl, Sl.nil _ _, HE3.out.ext HX5.out⟩
                | false =>
                  go_wp2
                  go_ret
                  rw [HT.out, besL_nil HF.out HG.out HKEY.out (by rw [HKX.out, HKY.out]; rfl)]
                  exact ⟨_, rfl, Sl.nil _ _, HE3.out.ext HX5.out⟩
          | false =>
            have HKEY := hid hkey
            go_wp2_with fail
            refine (rlist7_ok Z5 x.kind _ _ _ _ _ _ _ _ _ _ _).mono ?_
            rintro e Z6 ⟨rfl, hE4⟩
            rw [HF.out]
            have HB6 := hid (HB5.out.keep hE4 id)
            have HC6 := hid (HC5.out.keep hE4 id)
            have HX6 := hid (HX5.out.ext hE4)
            clear hE4 HB5 HC5 HX5 b0 b1 b2 b3 b4 b5 b6 b7 b8 b9 b10 b11 z0 z1 z2 z3 z4 z5 z6 z7 z8 z9 z10 z11
            have b0 := HB6.out.cell 0
            have b1 := HB6.out.cell 1
            have b2 := HB6.out.cell 2
            have b3 := HB6.out.cell 3
            have b4 := HB6.out.cell 4
            have b5 := HB6.out.cell 5
            have b6 := HB6.out.cell 6
            have b7 := HB6.out.cell 7
            have b8 := HB6.out.cell 8
            have b9 := HB6.out.cell 9
            have b10 := HB6.out.cell 10
            have b11 := HB6.out.cell 11
            simp at b0 b1 b2 b3 b4 b5 b6 b7 b8 b9 b10 b11
            have z0 := HC6.out.cell 0
            have z1 := HC6.out.cell 1
            have z2 := HC6.out.cell 2
            have z3 := HC6.out.cell 3
            have z4 := HC6.out.cell 4
            have z5 := HC6.out.cell 5
            have z6 := HC6.out.cell 6
            have z7 := HC6.out.cell 7
            have z8 := HC6.out.cell 8
            have z9 := HC6.out.cell 9
            have z10 := HC6.out.cell 10
            have z11 := HC6.out.cell 11
            simp at z0 z1 z2 z3 z4 z5 z6 z7 z8 z9 z10 z11
            go_wp2_with fail
            refine (rtext7_ok Z6 x.kind _ _ _ _ _ _ _ _ _ _ _).mono ?_
            rintro e Z7 ⟨rfl, hE4⟩
            rw [HF.out]
            have HB7 := hid (HB6.out.keep hE4 id)
            have HC7 := hid (HC6.out.keep hE4 id)
            have HX7 := hid (HX6.out.ext hE4)
            clear hE4 HB6 HC6 HX6 b0 b1 b2 b3 b4 b5 b6 b7 b8 b9 b10 b11 z0 z1 z2 z3 z4 z5 z6 z7 z8 z9 z10 z11
            have b0 := HB7.out.cell 0
            have b1 := HB7.out.cell 1
            have b2 := HB7.out.cell 2
            have b3 := HB7.out.cell 3
            have b4 := HB7.out.cell 4
            have b5 := HB7.out.cell 5
            have b6 := HB7.out.cell 6
            have b7 := HB7.out.cell 7
            have b8 := HB7.out.cell 8
            have b9 := HB7.out.cell 9
            have b10 := HB7.out.cell 10
            have b11 := HB7.out.cell 11
            simp at b0 b1 b2 b3 b4 b5 b6 b7 b8 b9 b10 b11
            have z0 := HC7.out.cell 0
            have z1 := HC7.out.cell 1
            have z2 := HC7.out.cell 2
            have z3 := HC7.out.cell 3
            have z4 := HC7.out.cell 4
            have z5 := HC7.out.cell 5
            have z6 := HC7.out.cell 6
            have z7 := HC7.out.cell 7
            have z8 := HC7.out.cell 8
            have z9 := HC7.out.cell 9
            have z10 := HC7.out.cell 10
            have z11 := HC7.out.cell 11
            simp at z0 z1 z2 z3 z4 z5 z6 z7 z8 z9 z10 z11
            go_wp2
            go_ret
            rw [HT.out, besL_key HF.out HKEY.out]
            exact bes_list HE3.out (bes_one HX7.out HS1.out HS2.out HS3.out rfl)
        · have g55 : (g == 5) = false := by simpa using g5
          have HNE := hid (show famN x.kind.toNat ≠ famN y.kind.toNat from by rw [HF.out, HG.out]; exact fun h => g5 h.symm)
          clear g5
          go_wp2_with fail
          refine (rfield7_ok Z4 y.kind _ _ _ _ _ _ _ _ _ _ _).mono ?_
          rintro e Z5 ⟨rfl, hE4⟩
          rw [HG.out]
          have HB5 := hid (HB4.out.keep hE4 id)
          have HC5 := hid (HC4.out.keep hE4 id)
          have HX5 := hid (HX4.out.ext hE4)
          clear hE4 HB4 HC4 HX4 b0 b1 b2 b3 b4 b5 b6 b7 b8 b9 b10 b11 z0 z1 z2 z3 z4 z5 z6 z7 z8 z9 z10 z11
          have b0 := HB5.out.cell 0
          have b1 := HB5.out.cell 1
          have b2 := HB5.out.cell 2
          have b3 := HB5.out.cell 3
          have b4 := HB5.out.cell 4
          have b5 := HB5.out.cell 5
          have b6 := HB5.out.cell 6
          have b7 := HB5.out.cell 7
          have b8 := HB5.out.cell 8
          have b9 := HB5.out.cell 9
          have b10 := HB5.out.cell 10
          have b11 := HB5.out.cell 11
          simp at b0 b1 b2 b3 b4 b5 b6 b7 b8 b9 b10 b11
          have z0 := HC5.out.cell 0
          have z1 := HC5.out.cell 1
          have z2 := HC5.out.cell 2
          have z3 := HC5.out.cell 3
          have z4 := HC5.out.cell 4
          have z5 := HC5.out.cell 5
          have z6 := HC5.out.cell 6
          have z7 := HC5.out.cell 7
          have z8 := HC5.out.cell 8
          have z9 := HC5.out.cell 9
          have z10 := HC5.out.cell 10
          have z11 := HC5.out.cell 11
          simp at z0 z1 z2 z3 z4 z5 z6 z7 z8 z9 z10 z11
          go_wp2_with fail
          refine (rlist7_ok Z5 x.kind _ _ _ _ _ _ _ _ _ _ _).mono ?_
          rintro e Z6 ⟨rfl, hE4⟩
          rw [HF.out]
          have HB6 := hid (HB5.out.keep hE4 id)
          have HC6 := hid (HC5.out.keep hE4 id)
          have HX6 := hid (HX5.out.ext hE4)
          clear hE4 HB5 HC5 HX5 b0 b1 b2 b3 b4 b5 b6 b7 b8 b9 b10 b11 z0 z1 z2 z3 z4 z5 z6 z7 z8 z9 z10 z11
          have b0 := HB6.out.cell 0
          have b1 := HB6.out.cell 1
          have b2 := HB6.out.cell 2
          have b3 := HB6.out.cell 3
          have b4 := HB6.out.cell 4
          have b5 := HB6.out.cell 5
          have b6 := HB6.out.cell 6
          have b7 := HB6.out.cell 7
          have b8 := HB6.out.cell 8
          have b9 := HB6.out.cell 9
          have b10 := HB6.out.cell 10
          have b11 := HB6.out.cell 11
          simp at b0 b1 b2 b3 b4 b5 b6 b7 b8 b9 b10 b11
          have z0 := HC6.out.cell 0
          have z1 := HC6.out.cell 1
          have z2 := HC6.out.cell 2
          have z3 := HC6.out.cell 3
          have z4 := HC6.out.cell 4
          have z5 := HC6.out.cell 5
          have z6 := HC6.out.cell 6
          have z7 := HC6.out.cell 7
          have z8 := HC6.out.cell 8
          have z9 := HC6.out.cell 9
          have z10 := HC6.out.cell 10
          have z11 := HC6.out.cell 11
          simp at z0 z1 z2 z3 z4 z5 z6 z7 z8 z9 z10 z11
          go_wp2_with fail
          refine (rtext7_ok Z6 x.kind _ _ _ _ _ _ _ _ _ _ _).mono ?_
          rintro e Z7 ⟨rfl, hE4⟩
          rw [HF.out]
          have HB7 := hid (HB6.out.keep hE4 id)
          have HC7 := hid (HC6.out.keep hE4 id)
          have HX7 := hid (HX6.out.ext hE4)
          clear hE4 HB6 HC6 HX6 b0 b1 b2 b3 b4 b5 b6 b7 b8 b9 b10 b11 z0 z1 z2 z3 z4 z5 z6 z7 z8 z9 z10 z11
          have b0 := HB7.out.cell 0
          have b1 := HB7.out.cell 1
          have b2 := HB7.out.cell 2
          have b3 := HB7.out.cell 3
          have b4 := HB7.out.cell 4
          have b5 := HB7.out.cell 5
          have b6 := HB7.out.cell 6
          have b7 := HB7.out.cell 7
          have b8 := HB7.out.cell 8
          have b9 := HB7.out.cell 9
          have b10 := HB7.out.cell 10
          have b11 := HB7.out.cell 11
          simp at b0 b1 b2 b3 b4 b5 b6 b7 b8 b9 b10 b11
          have z0 := HC7.out.cell 0
          have z1 := HC7.out.cell 1
          have z2 := HC7.out.cell 2
          have z3 := HC7.out.cell 3
          have z4 := HC7.out.cell 4
          have z5 := HC7.out.cell 5
          have z6 := HC7.out.cell 6
          have z7 := HC7.out.cell 7
          have z8 := HC7.out.cell 8
          have z9 := HC7.out.cell 9
          have z10 := HC7.out.cell 10
          have z11 := HC7.out.cell 11
          simp at z0 z1 z2 z3 z4 z5 z6 z7 z8 z9 z10 z11
          go_wp2
          go_ret
          rw [HT.out, besL_ne HNE.out]
          exact bes_list HE3.out (bes_one HX7.out HS1.out HS2.out HS3.out rfl)
      · have f55 : (f == 5) = false := by simpa using f5
        have F5 := hid f5
        clear f5
        go_wp2_with fail
        refine (rfield7_ok X3 x.kind _ _ _ _ _ _ _ _ _ _ _).mono ?_
        rintro e Z4 ⟨rfl, hE4⟩
        rw [HF.out]
        have HB4 := hid (HB3.out.keep hE4 id)
        have HC4 := hid (HC3.out.keep hE4 id)
        have HX4 := hid (HX3.out.ext hE4)
        clear hE4 HB3 HC3 HX3 b0 b1 b2 b3 b4 b5 b6 b7 b8 b9 b10 b11 z0 z1 z2 z3 z4 z5 z6 z7 z8 z9 z10 z11
        have b0 := HB4.out.cell 0
        have b1 := HB4.out.cell 1
        have b2 := HB4.out.cell 2
        have b3 := HB4.out.cell 3
        have b4 := HB4.out.cell 4
        have b5 := HB4.out.cell 5
        have b6 := HB4.out.cell 6
        have b7 := HB4.out.cell 7
        have b8 := HB4.out.cell 8
        have b9 := HB4.out.cell 9
        have b10 := HB4.out.cell 10
        have b11 := HB4.out.cell 11
        simp at b0 b1 b2 b3 b4 b5 b6 b7 b8 b9 b10 b11
        have z0 := HC4.out.cell 0
        have z1 := HC4.out.cell 1
        have z2 := HC4.out.cell 2
        have z3 := HC4.out.cell 3
        have z4 := HC4.out.cell 4
        have z5 := HC4.out.cell 5
        have z6 := HC4.out.cell 6
        have z7 := HC4.out.cell 7
        have z8 := HC4.out.cell 8
        have z9 := HC4.out.cell 9
        have z10 := HC4.out.cell 10
        have z11 := HC4.out.cell 11
        simp at z0 z1 z2 z3 z4 z5 z6 z7 z8 z9 z10 z11
        by_cases f4 : f = 4
        · subst f4
          have e44 : ((4 : Nat) == 4) = true := rfl
          have e43 : ((4 : Nat) == 3) = false := rfl
          go_wp2_with fail
          refine (rlist7_ok Z4 x.kind _ _ _ _ _ _ _ _ _ _ _).mono ?_
          rintro e Z5 ⟨rfl, hE4⟩
          rw [HF.out]
          have HB5 := hid (HB4.out.keep hE4 id)
          have HC5 := hid (HC4.out.keep hE4 id)
          have HX5 := hid (HX4.out.ext hE4)
          clear hE4 HB4 HC4 HX4 b0 b1 b2 b3 b4 b5 b6 b7 b8 b9 b10 b11 z0 z1 z2 z3 z4 z5 z6 z7 z8 z9 z10 z11
          have b0 := HB5.out.cell 0
          have b1 := HB5.out.cell 1
          have b2 := HB5.out.cell 2
          have b3 := HB5.out.cell 3
          have b4 := HB5.out.cell 4
          have b5 := HB5.out.cell 5
          have b6 := HB5.out.cell 6
          have b7 := HB5.out.cell 7
          have b8 := HB5.out.cell 8
          have b9 := HB5.out.cell 9
          have b10 := HB5.out.cell 10
          have b11 := HB5.out.cell 11
          simp at b0 b1 b2 b3 b4 b5 b6 b7 b8 b9 b10 b11
          have z0 := HC5.out.cell 0
          have z1 := HC5.out.cell 1
          have z2 := HC5.out.cell 2
          have z3 := HC5.out.cell 3
          have z4 := HC5.out.cell 4
          have z5 := HC5.out.cell 5
          have z6 := HC5.out.cell 6
          have z7 := HC5.out.cell 7
          have z8 := HC5.out.cell 8
          have z9 := HC5.out.cell 9
          have z10 := HC5.out.cell 10
          have z11 := HC5.out.cell 11
          simp at z0 z1 z2 z3 z4 z5 z6 z7 z8 z9 z10 z11
          by_cases g4 : g = 4
          · subst g4
            go_wp2_with fail
            refine (rlist7_ok Z5 y.kind _ _ _ _ _ _ _ _ _ _ _).mono ?_
            rintro e Z6 ⟨rfl, hE4⟩
            rw [HG.out]
            have HB6 := hid (HB5.out.keep hE4 id)
            have HC6 := hid (HC5.out.keep hE4 id)
            have HX6 := hid (HX5.out.ext hE4)
            clear hE4 HB5 HC5 HX5 b0 b1 b2 b3 b4 b5 b6 b7 b8 b9 b10 b11 z0 z1 z2 z3 z4 z5 z6 z7 z8 z9 z10 z11
            have b0 := HB6.out.cell 0
            have b1 := HB6.out.cell 1
            have b2 := HB6.out.cell 2
            have b3 := HB6.out.cell 3
            have b4 := HB6.out.cell 4
            have b5 := HB6.out.cell 5
            have b6 := HB6.out.cell 6
            have b7 := HB6.out.cell 7
            have b8 := HB6.out.cell 8
            have b9 := HB6.out.cell 9
            have b10 := HB6.out.cell 10
            have b11 := HB6.out.cell 11
            simp at b0 b1 b2 b3 b4 b5 b6 b7 b8 b9 b10 b11
            have z0 := HC6.out.cell 0
            have z1 := HC6.out.cell 1
            have z2 := HC6.out.cell 2
            have z3 := HC6.out.cell 3
            have z4 := HC6.out.cell 4
            have z5 := HC6.out.cell 5
            have z6 := HC6.out.cell 6
            have z7 := HC6.out.cell 7
            have z8 := HC6.out.cell 8
            have z9 := HC6.out.cell 9
            have z10 := HC6.out.cell 10
            have z11 := HC6.out.cell 11
            simp at z0 z1 z2 z3 z4 z5 z6 z7 z8 z9 z10 z11
            have HC := hid (rturn_any x.kind y.kind (.slice Ap2 x.path.length cp2) (.string x.key) (.int .i64 x.n) (U8 x.v.kind) (.int .i64 x.v.n) (.string x.v.s) (.slice Al2 x.v.l.length cl2) (.slice Ao2 x.v.o.length co2) (.string x.s) (.slice Bp y.path.length dp) (.string y.key) (.int .i64 y.n) (U8 y.v.kind) (.int .i64 y.v.n) (.string y.v.s) (.slice Bl y.v.l.length dl) (.slice Bo y.v.o.length do_) (.string y.s) x.i x.j y.i y.j left Z6 BX.out.i BX.out.j BY.out.i BY.out.j)
            have HRES := hid (besL_four (left := left) (show ¬ famN x.kind.toNat ≠ famN y.kind.toNat from by rw [HF.out, HG.out]; simp) HF.out)
            go_wp2_with fail
            refine HC.out.mono ?_
            intro e V h
            have hB := bes_list HE3.out (bes_seq HX6.out HS1.out HS2.out HS3.out h)
            rw [← HRES.out, ← HT.out] at hB
            obtain ⟨v, rfl, hs, hE4⟩ := hB
            obtain ⟨A4, c4, rfl, _⟩ := hs.shape
            have HS := hid hs
            have HE4 := hid hE4
            clear h hs hE4 HC
            go_wp2
            go_ret
            exact ⟨_, rfl, HS.out, HE4.out⟩
          · have g44 : (g == 4) = false := by simpa using g4
            have HNE := hid (show famN x.kind.toNat ≠ famN y.kind.toNat from by rw [HF.out, HG.out]; exact fun h => g4 h.symm)
            clear g4
            go_wp2_with fail
            refine (rlist7_ok Z5 y.kind _ _ _ _ _ _ _ _ _ _ _).mono ?_
            rintro e Z6 ⟨rfl, hE4⟩
            rw [HG.out]
            have HB6 := hid (HB5.out.keep hE4 id)
            have HC6 := hid (HC5.out.keep hE4 id)
            have HX6 := hid (HX5.out.ext hE4)
            clear hE4 HB5 HC5 HX5 b0 b1 b2 b3 b4 b5 b6 b7 b8 b9 b10 b11 z0 z1 z2 z3 z4 z5 z6 z7 z8 z9 z10 z11
            have b0 := HB6.out.cell 0
            have b1 := HB6.out.cell 1
            have b2 := HB6.out.cell 2
            have b3 := HB6.out.cell 3
            have b4 := HB6.out.cell 4
            have b5 := HB6.out.cell 5
            have b6 := HB6.out.cell 6
            have b7 := HB6.out.cell 7
            have b8 := HB6.out.cell 8
            have b9 := HB6.out.cell 9
            have b10 := HB6.out.cell 10
            have b11 := HB6.out.cell 11
            simp at b0 b1 b2 b3 b4 b5 b6 b7 b8 b9 b10 b11
            have z0 := HC6.out.cell 0
            have z1 := HC6.out.cell 1
            have z2 := HC6.out.cell 2
            have z3 := HC6.out.cell 3
            have z4 := HC6.out.cell 4
            have z5 := HC6.out.cell 5
            have z6 := HC6.out.cell 6
            have z7 := HC6.out.cell 7
            have z8 := HC6.out.cell 8
            have z9 := HC6.out.cell 9
            have z10 := HC6.out.cell 10
            have z11 := HC6.out.cell 11
            simp at z0 z1 z2 z3 z4 z5 z6 z7 z8 z9 z10 z11
            go_wp2_with fail
            refine (rtext7_ok Z6 x.kind _ _ _ _ _ _ _ _ _ _ _).mono ?_
            rintro e Z7 ⟨rfl, hE4⟩
            rw [HF.out]
            have HB7 := hid (HB6.out.keep hE4 id)
            have HC7 := hid (HC6.out.keep hE4 id)
            have HX7 := hid (HX6.out.ext hE4)
            clear hE4 HB6 HC6 HX6 b0 b1 b2 b3 b4 b5 b6 b7 b8 b9 b10 b11 z0 z1 z2 z3 z4 z5 z6 z7 z8 z9 z10 z11
            have b0 := HB7.out.cell 0
            have b1 := HB7.out.cell 1
            have b2 := HB7.out.cell 2
            have b3 := HB7.out.cell 3
            have b4 := HB7.out.cell 4
            have b5 := HB7.out.cell 5
            have b6 := HB7.out.cell 6
            have b7 := HB7.out.cell 7
            have b8 := HB7.out.cell 8
            have b9 := HB7.out.cell 9
            have b10 := HB7.out.cell 10
            have b11 := HB7.out.cell 11
            simp at b0 b1 b2 b3 b4 b5 b6 b7 b8 b9 b10 b11
            have z0 := HC7.out.cell 0
            have z1 := HC7.out.cell 1
            have z2 := HC7.out.cell 2
            have z3 := HC7.out.cell 3
            have z4 := HC7.out.cell 4
            have z5 := HC7.out.cell 5
            have z6 := HC7.out.cell 6
            have z7 := HC7.out.cell 7
            have z8 := HC7.out.cell 8
            have z9 := HC7.out.cell 9
            have z10 := HC7.out.cell 10
            have z11 := HC7.out.cell 11
            simp at z0 z1 z2 z3 z4 z5 z6 z7 z8 z9 z10 z11
            go_wp2
            go_ret
            rw [HT.out, besL_ne HNE.out]
            exact bes_list HE3.out (bes_one HX7.out HS1.out HS2.out HS3.out rfl)
        · have f44 : (f == 4) = false := by simpa using f4
          have F4 := hid f4
          clear f4
          go_wp2_with fail
          refine (rlist7_ok Z4 x.kind _ _ _ _ _ _ _ _ _ _ _).mono ?_
          rintro e Z5 ⟨rfl, hE4⟩
          rw [HF.out]
          have HB5 := hid (HB4.out.keep hE4 id)
          have HC5 := hid (HC4.out.keep hE4 id)
          have HX5 := hid (HX4.out.ext hE4)
          clear hE4 HB4 HC4 HX4 b0 b1 b2 b3 b4 b5 b6 b7 b8 b9 b10 b11 z0 z1 z2 z3 z4 z5 z6 z7 z8 z9 z10 z11
          have b0 := HB5.out.cell 0
          have b1 := HB5.out.cell 1
          have b2 := HB5.out.cell 2
          have b3 := HB5.out.cell 3
          have b4 := HB5.out.cell 4
          have b5 := HB5.out.cell 5
          have b6 := HB5.out.cell 6
          have b7 := HB5.out.cell 7
          have b8 := HB5.out.cell 8
          have b9 := HB5.out.cell 9
          have b10 := HB5.out.cell 10
          have b11 := HB5.out.cell 11
          simp at b0 b1 b2 b3 b4 b5 b6 b7 b8 b9 b10 b11
          have z0 := HC5.out.cell 0
          have z1 := HC5.out.cell 1
          have z2 := HC5.out.cell 2
          have z3 := HC5.out.cell 3
          have z4 := HC5.out.cell 4
          have z5 := HC5.out.cell 5
          have z6 := HC5.out.cell 6
          have z7 := HC5.out.cell 7
          have z8 := HC5.out.cell 8
          have z9 := HC5.out.cell 9
          have z10 := HC5.out.cell 10
          have z11 := HC5.out.cell 11
          simp at z0 z1 z2 z3 z4 z5 z6 z7 z8 z9 z10 z11
          by_cases f3 : f = 3
          · subst f3
            have e33 : ((3 : Nat) == 3) = true := rfl
            go_wp2_with fail
            refine (rtext7_ok Z5 x.kind _ _ _ _ _ _ _ _ _ _ _).mono ?_
            rintro e Z6 ⟨rfl, hE4⟩
            rw [HF.out]
            have HB6 := hid (HB5.out.keep hE4 id)
            have HC6 := hid (HC5.out.keep hE4 id)
            have HX6 := hid (HX5.out.ext hE4)
            clear hE4 HB5 HC5 HX5 b0 b1 b2 b3 b4 b5 b6 b7 b8 b9 b10 b11 z0 z1 z2 z3 z4 z5 z6 z7 z8 z9 z10 z11
            have b0 := HB6.out.cell 0
            have b1 := HB6.out.cell 1
            have b2 := HB6.out.cell 2
            have b3 := HB6.out.cell 3
            have b4 := HB6.out.cell 4
            have b5 := HB6.out.cell 5
            have b6 := HB6.out.cell 6
            have b7 := HB6.out.cell 7
            have b8 := HB6.out.cell 8
            have b9 := HB6.out.cell 9
            have b10 := HB6.out.cell 10
            have b11 := HB6.out.cell 11
            simp at b0 b1 b2 b3 b4 b5 b6 b7 b8 b9 b10 b11
            have z0 := HC6.out.cell 0
            have z1 := HC6.out.cell 1
            have z2 := HC6.out.cell 2
            have z3 := HC6.out.cell 3
            have z4 := HC6.out.cell 4
            have z5 := HC6.out.cell 5
            have z6 := HC6.out.cell 6
            have z7 := HC6.out.cell 7
            have z8 := HC6.out.cell 8
            have z9 := HC6.out.cell 9
            have z10 := HC6.out.cell 10
            have z11 := HC6.out.cell 11
            simp at z0 z1 z2 z3 z4 z5 z6 z7 z8 z9 z10 z11
            by_cases g3 : g = 3
            · subst g3
              go_wp2_with fail
              refine (rtext7_ok Z6 y.kind _ _ _ _ _ _ _ _ _ _ _).mono ?_
              rintro e Z7 ⟨rfl, hE4⟩
              rw [HG.out]
              have HB7 := hid (HB6.out.keep hE4 id)
              have HC7 := hid (HC6.out.keep hE4 id)
              have HX7 := hid (HX6.out.ext hE4)
              clear hE4 HB6 HC6 HX6 b0 b1 b2 b3 b4 b5 b6 b7 b8 b9 b10 b11 z0 z1 z2 z3 z4 z5 z6 z7 z8 z9 z10 z11
              have b0 := HB7.out.cell 0
              have b1 := HB7.out.cell 1
              have b2 := HB7.out.cell 2
              have b3 := HB7.out.cell 3
              have b4 := HB7.out.cell 4
              have b5 := HB7.out.cell 5
              have b6 := HB7.out.cell 6
              have b7 := HB7.out.cell 7
              have b8 := HB7.out.cell 8
              have b9 := HB7.out.cell 9
              have b10 := HB7.out.cell 10
              have b11 := HB7.out.cell 11
              simp at b0 b1 b2 b3 b4 b5 b6 b7 b8 b9 b10 b11
              have z0 := HC7.out.cell 0
              have z1 := HC7.out.cell 1
              have z2 := HC7.out.cell 2
              have z3 := HC7.out.cell 3
              have z4 := HC7.out.cell 4
              have z5 := HC7.out.cell 5
              have z6 := HC7.out.cell 6
              have z7 := HC7.out.cell 7
              have z8 := HC7.out.cell 8
              have z9 := HC7.out.cell 9
              have z10 := HC7.out.cell 10
              have z11 := HC7.out.cell 11
              simp at z0 z1 z2 z3 z4 z5 z6 z7 z8 z9 z10 z11
              have HC := hid (rturn_text x.kind Ap2 x.path.length cp2 x.key x.j x.v.kind x.v.n x.v.s Al2 x.v.l.length cl2 Ao2 x.v.o.length co2 x.s y.kind (.slice Bp y.path.length dp) (.string y.key) (.int .i64 y.j) (U8 y.v.kind) (.int .i64 y.v.n) (.string y.v.s) (.slice Bl y.v.l.length dl) (.slice Bo y.v.o.length do_) y.s x.i x.n y.i y.n left (BX.out.t HF.out).1 (BX.out.t HF.out).2 (BY.out.t HG.out).1 (BY.out.t HG.out).2 BY.out.s Z7 (HD.out.ext (HE3.out.ext HX7.out)))
              have HRES := hid (besL_three (left := left) (show ¬ famN x.kind.toNat ≠ famN y.kind.toNat from by rw [HF.out, HG.out]; simp) HF.out)
              go_wp2_with fail
              refine HC.out.mono ?_
              intro e V h
              have hB := bes_list HE3.out (bes_text HX7.out HS1.out HS2.out HS3.out h)
              rw [← HRES.out, ← HT.out] at hB
              obtain ⟨v, rfl, hs, hE4⟩ := hB
              obtain ⟨A4, c4, rfl, _⟩ := hs.shape
              have HS := hid hs
              have HE4 := hid hE4
              clear h hs hE4 HC
              go_wp2
              go_ret
              exact ⟨_, rfl, HS.out, HE4.out⟩
            · have g33 : (g == 3) = false := by simpa using g3
              have HNE := hid (show famN x.kind.toNat ≠ famN y.kind.toNat from by rw [HF.out, HG.out]; exact fun h => g3 h.symm)
              clear g3
              go_wp2_with fail
              refine (rtext7_ok Z6 y.kind _ _ _ _ _ _ _ _ _ _ _).mono ?_
              rintro e Z7 ⟨rfl, hE4⟩
              rw [HG.out]
              have HB7 := hid (HB6.out.keep hE4 id)
              have HC7 := hid (HC6.out.keep hE4 id)
              have HX7 := hid (HX6.out.ext hE4)
              clear hE4 HB6 HC6 HX6 b0 b1 b2 b3 b4 b5 b6 b7 b8 b9 b10 b11 z0 z1 z2 z3 z4 z5 z6 z7 z8 z9 z10 z11
              have b0 := HB7.out.cell 0
              have b1 := HB7.out.cell 1
              have b2 := HB7.out.cell 2
              have b3 := HB7.out.cell 3
              have b4 := HB7.out.cell 4
              have b5 := HB7.out.cell 5
              have b6 := HB7.out.cell 6
              have b7 := HB7.out.cell 7
              have b8 := HB7.out.cell 8
              have b9 := HB7.out.cell 9
              have b10 := HB7.out.cell 10
              have b11 := HB7.out.cell 11
              simp at b0 b1 b2 b3 b4 b5 b6 b7 b8 b9 b10 b11
              have z0 := HC7.out.cell 0
              have z1 := HC7.out.cell 1
              have z2 := HC7.out.cell 2
              have z3 := HC7.out.cell 3
              have z4 := HC7.out.cell 4
              have z5 := HC7.out.cell 5
              have z6 := HC7.out.cell 6
              have z7 := HC7.out.cell 7
              have z8 := HC7.out.cell 8
              have z9 := HC7.out.cell 9
              have z10 := HC7.out.cell 10
              have z11 := HC7.out.cell 11
              simp at z0 z1 z2 z3 z4 z5 z6 z7 z8 z9 z10 z11
              go_wp2
              go_ret
              rw [HT.out, besL_ne HNE.out]
              exact bes_list HE3.out (bes_one HX7.out HS1.out HS2.out HS3.out rfl)
          · have f33 : (f == 3) = false := by simpa using f3
            have F3 := hid f3
            clear f3
            go_wp2_with fail
            refine (rtext7_ok Z5 x.kind _ _ _ _ _ _ _ _ _ _ _).mono ?_
            rintro e Z6 ⟨rfl, hE4⟩
            rw [HF.out]
            have HB6 := hid (HB5.out.keep hE4 id)
            have HC6 := hid (HC5.out.keep hE4 id)
            have HX6 := hid (HX5.out.ext hE4)
            clear hE4 HB5 HC5 HX5 b0 b1 b2 b3 b4 b5 b6 b7 b8 b9 b10 b11 z0 z1 z2 z3 z4 z5 z6 z7 z8 z9 z10 z11
            have b0 := HB6.out.cell 0
            have b1 := HB6.out.cell 1
            have b2 := HB6.out.cell 2
            have b3 := HB6.out.cell 3
            have b4 := HB6.out.cell 4
            have b5 := HB6.out.cell 5
            have b6 := HB6.out.cell 6
            have b7 := HB6.out.cell 7
            have b8 := HB6.out.cell 8
            have b9 := HB6.out.cell 9
            have b10 := HB6.out.cell 10
            have b11 := HB6.out.cell 11
            simp at b0 b1 b2 b3 b4 b5 b6 b7 b8 b9 b10 b11
            have z0 := HC6.out.cell 0
            have z1 := HC6.out.cell 1
            have z2 := HC6.out.cell 2
            have z3 := HC6.out.cell 3
            have z4 := HC6.out.cell 4
            have z5 := HC6.out.cell 5
            have z6 := HC6.out.cell 6
            have z7 := HC6.out.cell 7
            have z8 := HC6.out.cell 8
            have z9 := HC6.out.cell 9
            have z10 := HC6.out.cell 10
            have z11 := HC6.out.cell 11
            simp at z0 z1 z2 z3 z4 z5 z6 z7 z8 z9 z10 z11
            go_wp2
            go_ret
            rw [HT.out, besL_oth (by rw [HF.out]; exact F3.out) (by rw [HF.out]; exact F4.out) (by rw [HF.out]; exact F5.out)]
            exact bes_list HE3.out (bes_one HX6.out HS1.out HS2.out HS3.out rfl)
end Go.Proofs.YtioplgfopillnaaDoor
