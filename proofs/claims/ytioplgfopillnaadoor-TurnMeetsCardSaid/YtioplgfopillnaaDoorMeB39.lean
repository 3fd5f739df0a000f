/- TurnQ, TurnR: laid together. -/
import Derived.Test.YtioplgfopillnaaDoorMeB38
import Derived.Test.YtioplgfopillnaaDoorMeB35
import Derived.Test.YtioplgfopillnaaDoorMeB33
set_option linter.unusedSimpArgs false
set_option linter.unusedVariables false
set_option maxHeartbeats 25600000
set_option maxRecDepth 20000
namespace Go.Proofs.YtioplgfopillnaaDoor
open Go.RowKit
def besL (x y : Cp) (left : Bool) : List Cp :=
 if famN x.kind.toNat ≠ famN y.kind.toNat then [x]
 else if famN x.kind.toNat = 4 then (turnL x.kind x.i x.j y.kind y.i y.j left).toList.map fun q => { x with i := q.1, j := q.2 }
 else if famN x.kind.toNat = 3 then (tturn x.kind x.i x.n y.kind y.i y.n (Lib.runeCount y.s : Nat) left).map fun q => { x with i := q.1, n := q.2 }
 else if famN x.kind.toNat = 5 ∧ (x.key.toList == y.key.toList) = true ∧ (x.kind.toNat == 2 && (left || y.kind.toNat == 3)) = false then []
 else [x]
theorem besL_four {x y : Cp} {left : Bool} (h : ¬ famN x.kind.toNat ≠ famN y.kind.toNat) (h4 : famN x.kind.toNat = 4) : besL x y left = (turnL x.kind x.i x.j y.kind y.i y.j left).toList.map fun q => { x with i := q.1, j := q.2 } := by
 unfold besL; rw [if_neg h, if_pos h4]
theorem besL_three {x y : Cp} {left : Bool} (h : ¬ famN x.kind.toNat ≠ famN y.kind.toNat) (h3 : famN x.kind.toNat = 3) : besL x y left = (tturn x.kind x.i x.n y.kind y.i y.n (Lib.runeCount y.s : Nat) left).map fun q => { x with i := q.1, n := q.2 } := by
 unfold besL; rw [if_neg h, if_neg (by rw [h3]; decide), if_pos h3]
structure Bd (x : Cp) : Prop where
 i : Sm x.i
 j : Sm x.j
 t : famN x.kind.toNat = 3 → Tm x.i ∧ Tm x.n
 s : x.s.size ≤ 100000
 p : ∀ s ∈ x.path, Sm s.i
def BesIs (w : World) (S : BS) (l : List Cp) (e : Ending) (w' : World) : Prop := ∃ v, e = .returned v ∧ Own ECp w' w.heap.size TCMP S v l ∧ Ext w w'
theorem bes_one {w W : World} {S : BS} {x : Cp} {pv lv ov : Value} (hE : Ext w W) (h1 : Sl ESt w S pv x.path) (h2 : Sl EVal w S lv x.v.l) (h3 : Sl EField w S ov x.v.o) {l : List Cp} (hl : l = [x]) :
  BesIs w S l (.returned (.slice (some ⟨W.heap.size, 0, none⟩) 1 1)) (W.alloc (.cells (cpCells x pv lv ov) TCMP)) := by
 subst hl
 have hE2 := hE.alloc (.cells (cpCells x pv lv ov) TCMP)
 exact ⟨_, rfl, .inr ⟨_, 1, _, rfl, hE.size, Blk.new _ _ _, Nat.le_refl _, by simp [maxLen], rfl, Cells.single ⟨pv, lv, ov, rfl, h1.ext ESt.ok hE2, h2.ext EVal.ok hE2, h3.ext EField.ok hE2⟩⟩, hE2⟩
theorem bes_seq {w W w' : World} {S : BS} {x : Cp} {pv lv ov : Value} {r : Option (Int × Int)} {e : Ending} (hE : Ext w W) (h1 : Sl ESt w S pv x.path) (h2 : Sl EVal w S lv x.v.l) (h3 : Sl EField w S ov x.v.o)
  (h : CompIs (U8 x.kind) pv (.string x.key) (.int .i64 x.n) (U8 x.v.kind) (.int .i64 x.v.n) (.string x.v.s) lv ov (.string x.s) W r e w') : BesIs w S (r.toList.map fun q => { x with i := q.1, j := q.2 }) e w' := by
 obtain ⟨v, rfl, hE1, ho⟩ := h
 have hE2 := hE.ext hE1
 refine ⟨v, rfl, ?_, hE2⟩
 cases r with
 | none =>
  have ho : v = .slice none 0 0 := ho
  subst ho
  exact Own.nil _ _ _ _
 | some q =>
  obtain ⟨g, rfl, hg, hb⟩ := ho
  exact .inr ⟨g, 1, _, rfl, Nat.le_trans hE.size hg, hb, Nat.le_refl _, by simp [maxLen], rfl, Cells.single ⟨pv, lv, ov, rfl, h1.ext ESt.ok hE2, h2.ext EVal.ok hE2, h3.ext EField.ok hE2⟩⟩
theorem cells_map {α β : Type} {E : El α} {E' : El β} {w w' : World} {S S' : BS} {f : α → β} (h : ∀ cs x, E.rd w S cs x → E'.rd w' S' cs (f x)) : ∀ {cs : List Value} {xs : List α}, Cells E w S cs xs → Cells E' w' S' cs (xs.map f)
 | _, [], hc => hc
 | _, _ :: _, ⟨c0, c1, e, h0, h1⟩ => ⟨c0, c1, e, h _ _ h0, cells_map h h1⟩
theorem bes_text {w W w' : World} {S : BS} {x : Cp} {pv lv ov : Value} {r : List (Int × Int)} {e : Ending} (hE : Ext w W) (h1 : Sl ESt w S pv x.path) (h2 : Sl EVal w S lv x.v.l) (h3 : Sl EField w S ov x.v.o)
  (h : TextIs (U8 x.kind) pv (.string x.key) (.int .i64 x.j) (U8 x.v.kind) (.int .i64 x.v.n) (.string x.v.s) lv ov (.string x.s) W r e w') : BesIs w S (r.map fun q => { x with i := q.1, n := q.2 }) e w' := by
 obtain ⟨v, rfl, ho, hE1⟩ := h
 have hE2 := hE.ext hE1
 refine ⟨v, rfl, ?_, hE2⟩
 rcases ho with ⟨rfl, rfl⟩ | ⟨g, cap, cur, rfl, hg, hb, hc, hm, hs, hcs⟩
 ·exact Own.nil _ _ _ _
 ·refine .inr ⟨g, cap, cur, by rw [List.length_map], Nat.le_trans hE.size hg, hb, by rw [List.length_map]; exact hc, hm, hs, ?_⟩
  rw [List.length_map]
  refine cells_map (E' := ECp) (S' := S) (w' := w') (f := fun q : Int × Int => { x with i := q.1, n := q.2 }) (fun cs q hq => ?_) hcs
  exact ⟨pv, lv, ov, hq, h1.ext ESt.ok hE2, h2.ext EVal.ok hE2, h3.ext EField.ok hE2⟩
theorem beside_ok (w : World) (S S2 : BS) (u t : Value) (x y : Cp) (left : Bool) (hx : CAt w S u x) (hy : CAt w S2 t y) (bx : Bd x) (by_ : Bd y) :
  Calls Tryd.prog 29 #[u, t, .bool left] w (BesIs w S (besL x y left)) := by
 obtain ⟨pv, lv, ov, rfl, h1, h2, h3⟩ := hx
 obtain ⟨Ap, cp, rfl, _⟩ := h1.shape
 obtain ⟨Al, cl, rfl, _⟩ := h2.shape
 obtain ⟨Ao, co, rfl, _⟩ := h3.shape
 obtain ⟨qv, mv, nv, rfl, k1, k2, k3⟩ := hy
 obtain ⟨Bp, dp, rfl, _⟩ := k1.shape
 obtain ⟨Bl, dl, rfl, _⟩ := k2.shape
 obtain ⟨Bo, do_, rfl, _⟩ := k3.shape
 clear k1 k2 k3
 obtain ⟨W, hW⟩ : ∃ W, (w.alloc (.cells (cpCells x (.slice Ap x.path.length cp) (.slice Al x.v.l.length cl) (.slice Ao x.v.o.length co)) TCMP)).alloc (.cells (cpCells y (.slice Bp y.path.length dp) (.slice Bl y.v.l.length dl) (.slice Bo y.v.o.length do_)) TCMP) = W := ⟨_, rfl⟩
 have hE : Ext w W := by rw [← hW]; exact ((Keep.refl _ _).alloc _).alloc _
 have hb : Blk W w.heap.size TCMP (cpCells x (.slice Ap x.path.length cp) (.slice Al x.v.l.length cl) (.slice Ao x.v.o.length co)) := by rw [← hW]; exact (Blk.new _ _ _).alloc _
 have hc : Blk W (w.heap.size + 1) TCMP (cpCells y (.slice Bp y.path.length dp) (.slice Bl y.v.l.length dl) (.slice Bo y.v.o.length do_)) := by
  have := Blk.new (w.alloc (.cells (cpCells x (.slice Ap x.path.length cp) (.slice Al x.v.l.length cl) (.slice Ao x.v.o.length co)) TCMP)) TCMP (cpCells y (.slice Bp y.path.length dp) (.slice Bl y.v.l.length dl) (.slice Bo y.v.o.length do_))
  rw [World.size_alloc, hW] at this
  exact this
 obtain ⟨x0, x1, x2, x3, x4, x5, x6, x7, x8, x9, x10, x11⟩ := sq12 hb
 obtain ⟨y0, y1, y2, y3, y4, y5, y6, y7, y8, y9, y10, y11⟩ := sq12 hc
 have HB := hid hb
 have HC := hid hc
 have HE := hid hE
 have H1 := hid h1
 have H2 := hid h2
 have H3 := hid h3
 have BX := hid bx
 have BY := hid by_
 clear hb hc hE h1 h2 h3 bx by_
 go_enter Tryd.func29, Tryd.ntmps29
 go_wp2_with fail
 refine (family_ok W x.kind _ _ _ _ _ _ _ _ _ _ _).mono ?_
 rintro e W2 ⟨rfl, hE2⟩
 have hb2 := HB.out.keep hE2 id
 have hc2 := HC.out.keep hE2 id
 clear x0 y0 x1 y1 x2 y2 x3 y3 x4 y4 x5 y5 x6 y6 x7 y7 x8 y8 x9 y9 x10 y10 x11 y11
 obtain ⟨x0, x1, x2, x3, x4, x5, x6, x7, x8, x9, x10, x11⟩ := sq12 hb2
 obtain ⟨y0, y1, y2, y3, y4, y5, y6, y7, y8, y9, y10, y11⟩ := sq12 hc2
 have HB2 := hid hb2
 have HC2 := hid hc2
 have HE2 := hid (HE.out.ext hE2)
 clear hb2 hc2 hE2 hW
 go_wp2_with fail
 refine (family_ok W2 y.kind _ _ _ _ _ _ _ _ _ _ _).mono ?_
 rintro e W3 ⟨rfl, hE3⟩
 have hb3 := HB2.out.keep hE3 id
 have hc3 := HC2.out.keep hE3 id
 clear x0 y0 x1 y1 x2 y2 x3 y3 x4 y4 x5 y5 x6 y6 x7 y7 x8 y8 x9 y9 x10 y10 x11 y11
 obtain ⟨x0, x1, x2, x3, x4, x5, x6, x7, x8, x9, x10, x11⟩ := sq12 hb3
 obtain ⟨y0, y1, y2, y3, y4, y5, y6, y7, y8, y9, y10, y11⟩ := sq12 hc3
 have HB3 := hid hb3
 have HC3 := hid hc3
 have HE3 := hid (HE2.out.ext hE3)
 clear hb3 hc3 hE3 HB2 HC2 HE2
 obtain ⟨f, hf⟩ : ∃ f, famN x.kind.toNat = f := ⟨_, rfl⟩
 obtain ⟨g, hg⟩ : ∃ g, famN y.kind.toNat = g := ⟨_, rfl⟩
 rw [hf, hg]
 have HF := hid hf
 have HG := hid hg
 clear hf hg
 by_cases hfg : f = g
 ·subst hfg
  have q0 : ((f : Int) == (f : Int)) = true := by simp
  have hnn : ¬ famN x.kind.toNat ≠ famN y.kind.toNat := by rw [HF.out, HG.out]; simp
  have HNN := hid hnn
  clear hnn
  by_cases h4 : f = 4
  ·subst h4
   have HT := hid (turn_any x.kind y.kind (.slice Ap x.path.length cp) (.string x.key) (.int .i64 x.n) (U8 x.v.kind) (.int .i64 x.v.n) (.string x.v.s) (.slice Al x.v.l.length cl) (.slice Ao x.v.o.length co) (.string x.s) (.slice Bp y.path.length dp) (.string y.key) (.int .i64 y.n) (U8 y.v.kind) (.int .i64 y.v.n) (.string y.v.s) (.slice Bl y.v.l.length dl) (.slice Bo y.v.o.length do_) (.string y.s) x.i x.j y.i y.j left W3 BX.out.i BX.out.j BY.out.i BY.out.j)
   have HRES := hid (besL_four (left := left) HNN.out HF.out)
   go_wp2_with fail
   refine HT.out.mono ?_
   intro e W4 h
   have hB := bes_seq HE3.out H1.out H2.out H3.out h
   rw [← HRES.out] at hB
   obtain ⟨v, rfl, ho, hE4⟩ := hB
   obtain ⟨A4, c4, rfl, _⟩ := ho.shape
   have HO := hid ho
   have HE4 := hid hE4
   clear h ho hE4
   go_wp2
   go_ret
   exact ⟨_, rfl, HO.out, HE4.out⟩
  ·by_cases h3 : f = 3
   ·subst h3
    have HT := hid (turn_text x.kind Ap x.path.length cp x.key x.j x.v.kind x.v.n x.v.s Al x.v.l.length cl Ao x.v.o.length co x.s y.kind (.slice Bp y.path.length dp) (.string y.key) (.int .i64 y.j) (U8 y.v.kind) (.int .i64 y.v.n) (.string y.v.s) (.slice Bl y.v.l.length dl) (.slice Bo y.v.o.length do_) y.s x.i x.n y.i y.n left (BX.out.t HF.out).1 (BX.out.t HF.out).2 (BY.out.t HG.out).1 (BY.out.t HG.out).2 (by have := BY.out.s; omega) W3)
    have HRES := hid (besL_three (left := left) HNN.out HF.out)
    clear h4
    go_wp2_with fail
    refine HT.out.mono ?_
    intro e W4 h
    have hB := bes_text HE3.out H1.out H2.out H3.out h
    rw [← HRES.out] at hB
    obtain ⟨v, rfl, ho, hE4⟩ := hB
    obtain ⟨A4, c4, rfl, _⟩ := ho.shape
    have HO := hid ho
    have HE4 := hid hE4
    clear h ho hE4
    go_wp2
    go_ret
    exact ⟨_, rfl, HO.out, HE4.out⟩
   ·have h4X : ((f : Int) == 4) = false := by simp; omega
    have h3X : ((f : Int) == 3) = false := by simp; omega
    have H4 := hid h4
    have H3F := hid h3
    clear h4 h3
    by_cases h5 : f = 5
    ·subst h5
     cases hkey : (x.key.toList == y.key.toList) with
     | false =>
      have HKEY := hid hkey
      go_wp2
      go_ret
      refine bes_one HE3.out H1.out H2.out H3.out ?_
      unfold besL; rw [if_neg HNN.out, if_neg (by rw [HF.out]; decide), if_neg (by rw [HF.out]; decide), if_neg (by rw [HKEY.out]; simp)]
     | true =>
      have HKEY := hid hkey
      obtain ⟨b, hb⟩ : ∃ b, (x.kind.toNat == 2 && (left || y.kind.toNat == 3)) = b := ⟨_, rfl⟩
      have HBB := hid hb
      have HT := hid (fields_ok W3 x.kind y.kind (.slice Ap x.path.length cp) (.string x.key) (.int .i64 x.i) (.int .i64 x.j) (.int .i64 x.n) (U8 x.v.kind) (.int .i64 x.v.n) (.string x.v.s) (.slice Al x.v.l.length cl) (.slice Ao x.v.o.length co) (.string x.s) (.slice Bp y.path.length dp) (.string y.key) (.int .i64 y.i) (.int .i64 y.j) (.int .i64 y.n) (U8 y.v.kind) (.int .i64 y.v.n) (.string y.v.s) (.slice Bl y.v.l.length dl) (.slice Bo y.v.o.length do_) (.string y.s) left)
      rw [hb] at HT
      clear hb
      go_wp2_with fail
      refine HT.out.mono ?_
      rintro e W4 ⟨rfl, hE4⟩
      have hb4 := HB3.out.keep hE4 id
      clear x0 x1 x2 x3 x4 x5 x6 x7 x8 x9 x10 x11 y0 y1 y2 y3 y4 y5 y6 y7 y8 y9 y10 y11
      obtain ⟨x0, x1, x2, x3, x4, x5, x6, x7, x8, x9, x10, x11⟩ := sq12 hb4
      have HE4 := hid (HE3.out.ext hE4)
      clear hE4 hb4 HB3 HC3 HT
      cases b with
      | true =>
       go_wp2
       go_ret
       refine bes_one HE4.out H1.out H2.out H3.out ?_
       unfold besL; rw [if_neg HNN.out, if_neg (by rw [HF.out]; decide), if_neg (by rw [HF.out]; decide), if_neg (by rw [HBB.out]; simp)]
      | false =>
       go_wp2
       go_ret
       refine ⟨_, rfl, ?_, HE4.out⟩
       rw [show besL x y left = [] from by unfold besL; rw [if_neg HNN.out, if_neg (by rw [HF.out]; decide), if_neg (by rw [HF.out]; decide), if_pos ⟨HF.out, HKEY.out, HBB.out⟩]]
       exact Own.nil _ _ _ _
    ·have h5X : ((f : Int) == 5) = false := by simp; omega
     have H5 := hid h5
     clear h5
     go_wp2
     go_ret
     refine bes_one HE3.out H1.out H2.out H3.out ?_
     unfold besL; rw [if_neg HNN.out, if_neg (by rw [HF.out]; exact H4.out), if_neg (by rw [HF.out]; exact H3F.out), if_neg (by rw [HF.out]; exact fun h => H5.out h.1)]
 ·have q0 : ((f : Int) == (g : Int)) = false := by simp; omega
  have HFG := hid hfg
  clear hfg
  go_wp2
  go_ret
  refine bes_one HE3.out H1.out H2.out H3.out ?_
  unfold besL; rw [HF.out, HG.out, if_pos HFG.out]
def TList (w : World) (l : List Cp) (e : Ending) (w' : World) : Prop := ∃ v, e = .returned v ∧ Sl ECp w' (fun k => k < w'.heap.size) v l ∧ Ext w w'
def turnC (b : Bool) (x y : Cp) (left : Bool) : List Cp :=
 if b = true then
  match x.path[y.path.length]? with
  | some s => if (thrL s y).2 = true then [{ x with path := x.path.set y.path.length { s with i := (thrL s y).1 } }] else []
  | none => besL x y left
 else [x]
theorem tone_list {w : World} {x : Cp} {e : Ending} {w' : World} (h : TurnOne w x e w') : TList w [x] e w' := by
 obtain ⟨g, pv, lv, ov, rfl, hb, h1, h2, h3, hE⟩ := h
 refine ⟨_, rfl, (show Sl ECp w' (fun _ => True) _ [x] from ⟨cpL x pv lv ov, ⟨rfl, _, 1, rfl, Nat.le_refl _, by simp [maxLen], fun _ => ⟨g, 0, rfl, trivial, hb.lt, fun j u hu => ?_⟩⟩, Cells.single ⟨pv, lv, ov, rfl, h1.more ESt.ok fun _ _ _ => trivial, h2.more EVal.ok fun _ _ _ => trivial, h3.more EField.ok fun _ _ _ => trivial⟩⟩).lt_, hE⟩
 rw [Nat.zero_add, hb.cell]
 simpa using hu
theorem bel_list {w : World} {x y : Cp} {k : Nat} {s : St} {e : Ending} {w' : World} (h : BelIs w x y k s e w') : TList w (if (thrL s y).2 = true then [{ x with path := x.path.set k { s with i := (thrL s y).1 } }] else []) e w' := by
 unfold BelIs at h
 generalize thrL s y = r at *
 obtain ⟨r1, r2⟩ := r
 cases r2 with
 | false =>
  rw [if_neg (by simp)]
  rcases h with ⟨h1, h2, h3⟩ | ⟨h1, h2⟩
  ·exact ⟨_, h2, Sl.nil _ _, h3⟩
  ·cases h1
 | true =>
  rw [if_pos rfl]
  rcases h with ⟨h1, h2, h3⟩ | ⟨h1, h2⟩
  ·cases h1
  ·exact tone_list h2
theorem splitL_len (ai an bi rb : Int) : (splitL ai an bi rb).length ≤ 2 := by unfold splitL; (repeat' split) <;> simp
theorem tturn_len (ak : UInt8) (ai an : Int) (bk : UInt8) (bi bn rb : Int) (left : Bool) : (tturn ak ai an bk bi bn rb left).length ≤ 2 := by
 have := splitL_len ai an bi rb
 unfold tturn; (repeat' split) <;> simp <;> omega
theorem besL_len (x y : Cp) (left : Bool) : (besL x y left).length ≤ 1000 := by
 have h := tturn_len x.kind x.i x.n y.kind y.i y.n (Lib.runeCount y.s : Nat) left
 unfold besL
 repeat' split
 ·simp
 ·cases turnL x.kind x.i x.j y.kind y.i y.j left <;> simp
 ·rw [List.length_map]; omega
 ·simp
 ·simp
theorem besL_fit {x y : Cp} {left : Bool} (hf : Fit x) : ∀ c ∈ besL x y left, Fit c := by
 intro c
 unfold besL
 repeat' split
 ·intro h; rw [List.mem_singleton.1 h]; exact hf
 ·intro h
  obtain ⟨q, _, rfl⟩ := List.mem_map.1 h
  exact hf
 ·intro h
  obtain ⟨q, _, rfl⟩ := List.mem_map.1 h
  exact hf
 ·intro h; cases h
 ·intro h; rw [List.mem_singleton.1 h]; exact hf
theorem turn_same (w : World) (S S2 : BS) (u t : Value) (x y : Cp) (left : Bool) (hx : CAt w S u x) (hy : CAt w S2 t y) (hf : Fit x) (bx : Bd x) (by_ : Bd y) (hn : y.path <+: x.path) (hk : ¬ y.path.length < x.path.length) :
  Calls Tryd.prog 13 #[u, t, .bool left] w (TList w (besL x y left)) := by
 obtain ⟨hp, hv⟩ := hf
 obtain ⟨pv, lv, ov, rfl, h1, h2, h3⟩ := hx.cut
 obtain ⟨Ap, cp, rfl, _⟩ := h1.shape
 obtain ⟨Al, cl, rfl, _⟩ := h2.shape
 obtain ⟨Ao, co, rfl, _⟩ := h3.shape
 obtain ⟨qv, mv, nv, rfl, k1, k2, k3⟩ := hy.cut
 obtain ⟨Bp, dp, rfl, _⟩ := k1.shape
 obtain ⟨Bl, dl, rfl, _⟩ := k2.shape
 obtain ⟨Bo, do_, rfl, _⟩ := k3.shape
 obtain ⟨W, hW⟩ : ∃ W, (w.alloc (.cells (cpCells x (.slice Ap x.path.length cp) (.slice Al x.v.l.length cl) (.slice Ao x.v.o.length co)) TCMP)).alloc (.cells (cpCells y (.slice Bp y.path.length dp) (.slice Bl y.v.l.length dl) (.slice Bo y.v.o.length do_)) TCMP) = W := ⟨_, rfl⟩
 have hE : Ext w W := by rw [← hW]; exact ((Keep.refl _ _).alloc _).alloc _
 have hsz : W.heap.size = w.heap.size + 2 := by rw [← hW]; simp
 have hb : Blk W w.heap.size TCMP (cpCells x (.slice Ap x.path.length cp) (.slice Al x.v.l.length cl) (.slice Ao x.v.o.length co)) := by rw [← hW]; exact (Blk.new _ _ _).alloc _
 have hc : Blk W (w.heap.size + 1) TCMP (cpCells y (.slice Bp y.path.length dp) (.slice Bl y.v.l.length dl) (.slice Bo y.v.o.length do_)) := by
  have := Blk.new (w.alloc (.cells (cpCells x (.slice Ap x.path.length cp) (.slice Al x.v.l.length cl) (.slice Ao x.v.o.length co)) TCMP)) TCMP (cpCells y (.slice Bp y.path.length dp) (.slice Bl y.v.l.length dl) (.slice Bo y.v.o.length do_))
  rw [World.size_alloc, hW] at this
  exact this
 have HX := hid (show CAt W (fun k => k < w.heap.size) (.agg (cpCells x (.slice Ap x.path.length cp) (.slice Al x.v.l.length cl) (.slice Ao x.v.o.length co))) x from (CAt.ext ⟨_, _, _, rfl, h1, h2, h3⟩ hE).more fun k _ h => h.2)
 have HY := hid (show CAt W (fun k => k < w.heap.size) (.agg (cpCells y (.slice Bp y.path.length dp) (.slice Bl y.v.l.length dl) (.slice Bo y.v.o.length do_))) y from (CAt.ext ⟨_, _, _, rfl, k1, k2, k3⟩ hE).more fun k _ h => h.2)
 have HQ := hid ((k1.more (S' := fun k => k < w.heap.size) ESt.ok fun k _ h => h.2).ext ESt.ok hE)
 have HB := hid hb
 have HC := hid hc
 have HE := hid hE
 have HN := hid hn
 obtain ⟨a0, a1, a2, a3, a4, a5, a6, a7, a8, a9, a10, a11⟩ := sq12 hb
 have HK := hid hk
 have BX := hid bx
 have BY := hid by_
 clear h1 h2 h3 k1 k2 k3 hk hE hb hc hx hy hn bx by_
 go_enter Tryd.func13, Tryd.ntmps13
 go_wp2_with fail
 refine (comp_copy W _ _ x HX.out hp hv).mono ?_
 rintro e X1 ⟨u', rfl, hu', hE1⟩
 obtain ⟨pv2, lv2, ov2, rfl, g1, g2, g3⟩ := hu'
 obtain ⟨Ap2, cp2, rfl, _⟩ := g1.shape
 obtain ⟨Al2, cl2, rfl, _⟩ := g2.shape
 obtain ⟨Ao2, co2, rfl, _⟩ := g3.shape
 have hs1 := hE1.size
 have hb := HB.out.keep hE1 id
 obtain ⟨X2, hX2⟩ : ∃ X2, ((((((((((((X1.setCell ⟨w.heap.size, 0, none⟩ (.int .u8 (x.kind.toNat : Int))).setCell ⟨w.heap.size, 1, none⟩ (.slice Ap2 x.path.length cp2)).setCell ⟨w.heap.size, 2, none⟩ (.string x.key)).setCell ⟨w.heap.size, 3, none⟩ (.int .i64 x.i)).setCell ⟨w.heap.size, 4, none⟩ (.int .i64 x.j)).setCell ⟨w.heap.size, 5, none⟩ (.int .i64 x.n)).setCell ⟨w.heap.size, 6, none⟩ (.int .u8 (x.v.kind.toNat : Int))).setCell ⟨w.heap.size, 7, none⟩ (.int .i64 x.v.n)).setCell ⟨w.heap.size, 8, none⟩ (.string x.v.s)).setCell ⟨w.heap.size, 9, none⟩ (.slice Al2 x.v.l.length cl2)).setCell ⟨w.heap.size, 10, none⟩ (.slice Ao2 x.v.o.length co2)).setCell ⟨w.heap.size, 11, none⟩ (.string x.s)) = X2 := ⟨_, rfl⟩
 have hk : Keep (· = w.heap.size) X1 X2 := by rw [← hX2]; exact (((((((((((((Keep.refl (· = w.heap.size) X1).set1 0 _).set1 1 _).set1 2 _).set1 3 _).set1 4 _).set1 5 _).set1 6 _).set1 7 _).set1 8 _).set1 9 _).set1 10 _).set1 11 _)
 have hb2 : Blk X2 w.heap.size TCMP (cpCells x (.slice Ap2 x.path.length cp2) (.slice Al2 x.v.l.length cl2) (.slice Ao2 x.v.o.length co2)) := by rw [← hX2]; exact set12f hb rfl (.int .u8 (x.kind.toNat : Int)) (.slice Ap2 x.path.length cp2) (.string x.key) (.int .i64 x.i) (.int .i64 x.j) (.int .i64 x.n) (.int .u8 (x.v.kind.toNat : Int)) (.int .i64 x.v.n) (.string x.v.s) (.slice Al2 x.v.l.length cl2) (.slice Ao2 x.v.o.length co2) (.string x.s)
 have HG1 := hid (g1.keep ESt.ok hk fun k h e => by omega)
 have HG2 := hid (g2.keep EVal.ok hk fun k h e => by omega)
 have HG3 := hid (g3.keep EField.ok hk fun k h e => by omega)
 have HB2 := hid hb2
 have HC2 := hid ((HC.out.keep hE1 id).keep hk (by omega))
 have HQ2 := hid ((HQ.out.ext ESt.ok hE1).keep ESt.ok hk fun k h e => by omega)
 have HY2 := hid ((HY.out.ext hE1).keep hk fun k h e => by omega)
 have HE2 := hid ((HE.out.ext hE1).trans hk fun k hk e => by omega)
 have HX2 := hid hX2
 obtain ⟨b0, b1, b2, b3, b4, b5, b6, b7, b8, b9, b10, b11⟩ := sq12 hb
 obtain ⟨f0, f1, f2, f3, f4, f5, f6, f7, f8, f9, f10, f11⟩ := sqf12 hb
 have y1 := (HC.out.keep hE1 id).cell 1
 simp at y1
 clear hX2 hk hb2 hb g1 g2 g3 hE1 HB HC HQ HX HY a0 a1 a2 a3 a4 a5 a6 a7 a8 a9 a10 a11
 go_wp2_with fail
 rw [HX2.out]
 clear y1 b0 b1 b2 b3 b4 b5 b6 b7 b8 b9 b10 b11 f0 f1 f2 f3 f4 f5 f6 f7 f8 f9 f10 f11
 refine (begins_ok X2 _ _ _ _ _ _ HG1.out HQ2.out).mono ?_
 intro e X3 hbeg
 obtain ⟨rfl, hE3⟩ := hbeg.yes HN.out
 have HB3 := hid (HB2.out.keep hE3 id)
 have HCA := hid (show CAt X3 (fun k => k < X3.heap.size) (.agg (cpCells x (.slice Ap2 x.path.length cp2) (.slice Al2 x.v.l.length cl2) (.slice Ao2 x.v.o.length co2))) x from (CAt.cut ⟨_, _, _, rfl, HG1.out.ext ESt.ok hE3, HG2.out.ext EVal.ok hE3, HG3.out.ext EField.ok hE3⟩).more fun k _ h => h.2)
 have HY3 := hid (HY2.out.ext hE3)
 have HE3 := hid (HE2.out.ext hE3)
 have HC3 := hid (HC2.out.keep hE3 id)
 clear hbeg hE3 HB2 HG1 HG2 HG3 HQ2 HE2 HX2 HY2 HC2
 obtain ⟨b0, b1, b2, b3, b4, b5, b6, b7, b8, b9, b10, b11⟩ := sq12 HB3.out
 have hklX : ¬ ((y.path.length : Int) < x.path.length) := by have := HK.out; omega
 obtain ⟨z0, z1, z2, z3, z4, z5, z6, z7, z8, z9, z10, z11⟩ := sq12 HC3.out
 go_wp2_with fail
 refine (beside_ok X3 _ _ _ _ x y left HCA.out HY3.out BX.out BY.out).mono ?_
 rintro e X4 ⟨v, rfl, ho, hE4⟩
 have HO := hid ho
 have HE4 := hid (HE3.out.ext hE4)
 have HS3 := hid HE3.out.size
 clear hE4 ho b0 b1 b2 b3 b4 b5 b6 b7 b8 b9 b10 b11 z0 z1 z2 z3 z4 z5 z6 z7 z8 z9 z10 z11
 go_wp2_with fail
 refine (own_list X4 _ _ v _ HO.out (fun g e h => by have := (HO.out.lt e).1; omega) (besL_len _ _ _) (besL_fit ⟨hp, hv⟩)).mono ?_
 rintro e X5 ⟨rfl, hs5, hk5⟩
 have hOl := HO.out
 obtain ⟨A5, c5, rfl, _⟩ := hOl.shape
 have HS5 := hid hs5
 have HK5 := hid hk5
 have HOL := hid hOl
 clear hs5 hk5 hOl
 go_wp2
 go_ret
 exact ⟨_, rfl, HS5.out, HE4.out.trans HK5.out fun k hk e => by have := (HOL.out.lt e).1; have := HS3.out; omega⟩
theorem turn_list (w : World) (S S2 : BS) (u t : Value) (x y : Cp) (left : Bool) (hx : CAt w S u x) (hy : CAt w S2 t y) (hf : Fit x) (bx : Bd x) (by_ : Bd y) (b : Bool) (hb : b = true ↔ y.path <+: x.path) :
  Calls Tryd.prog 13 #[u, t, .bool left] w (TList w (turnC b x y left)) := by
 unfold turnC
 by_cases hbt : b = true
 ·have hn := hb.1 hbt
  rw [if_pos hbt]
  by_cases hk : y.path.length < x.path.length
  ·have hs : x.path[y.path.length]? = some x.path[y.path.length] := List.getElem?_eq_getElem hk
   rw [hs]
   have h := turn_below w S S2 u t x y _ _ left hx hy hf.1 hf.2 hn hk rfl hs (bx.p _ (List.getElem_mem hk)) by_.i by_.j
   exact h.mono fun e w' h => bel_list h
  ·rw [List.getElem?_eq_none (by omega)]
   exact turn_same w S S2 u t x y left hx hy hf bx by_ hn hk
 ·have hn : ¬ y.path <+: x.path := fun h => hbt (hb.2 h)
  rw [if_neg hbt]
  exact (turn_apart w S S2 u t x y left hx hy hf.1 hf.2 hn).mono fun e w' h => tone_list h
end Go.Proofs.YtioplgfopillnaaDoor
