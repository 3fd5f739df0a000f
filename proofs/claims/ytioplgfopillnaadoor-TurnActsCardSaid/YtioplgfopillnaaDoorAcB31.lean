/- TurnR, SeqRB4, SeqRB5, SeqRB6, SeqRB7, SeqRBx, SeqRC, LayDR: laid together. -/
import Derived.Test.YtioplgfopillnaaDoorAcB30
import Derived.Test.YtioplgfopillnaaDoorAcB27
import Derived.Shelf.Unicode.DecodeAny
import Derived.Ground.NamesProg
import Derived.Test.YtioplgfopillnaaDoorProg
/- turn.Turn by contract, in all cases: new memory that holds what is left of a component behind another one. -/
set_option linter.unusedSimpArgs false
set_option linter.unusedVariables false
namespace Go.Proofs.YtioplgfopillnaaDoor
open Go.RowKit
set_option linter.unusedVariables false

/-- New memory that holds these components. -/
def TList (w : World) (l : List Cp) (e : Ending) (w' : World) : Prop := ∃ v, e = .returned v ∧ Sl ECp w' (fun k => k < w'.heap.size) v l ∧ Ext w w'
/-- What is left of x behind y. -/
def turnC (b : Bool) (x y : Cp) (left : Bool) : List Cp :=
  if b = true then
    match x.path[y.path.length]? with
    | some s => if (thrL s y).2 = true then [{ x with path := x.path.set y.path.length { s with i := (thrL s y).1 } }] else []
    | none => besL x y left
  else [x]
theorem tone_list {w : World} {x : Cp} {e : Ending} {w' : World} (h : TurnOne w x e w') : TList w [x] e w' := by
  obtain ⟨g, pv, lv, ov, rfl, hb, h1, h2, h3, hE⟩ := h
  refine ⟨_, rfl, (show Sl ECp w' (fun _ => True) _ [x] from ⟨cpL x pv lv ov, ⟨rfl, _, 1, rfl, Nat.le_refl _, by simp [maxLen], fun _ => ⟨g, 0, rfl, trivial, hb.lt, fun j u hu => ?_⟩⟩, Cells.single ⟨pv, lv, ov, rfl, h1.more ESt.ok fun _ _ _ => trivial, h2.more EVal.ok fun _ _ _ => trivial, h3.more EField.ok fun _ _ _ => trivial⟩⟩).lt_, hE⟩
  rw [Nat.zero_add, hb.cell]
  simpa using hu
theorem bel_list {w : World} {x y : Cp} {k : Nat} {s : St} {e : Ending} {w' : World} (h : BelIs w x y k s e w') : TList w (if (thrL s y).2 = true then [{ x with path := x.path.set k { s with i := (thrL s y).1 } }] else []) e w' := by
  unfold BelIs at h
  generalize thrL s y = r at *
  obtain ⟨r1, r2⟩ := r
  cases r2 with
  | false =>
    rw [if_neg (by simp)]
    rcases h with ⟨h1, h2, h3⟩ | ⟨h1, h2⟩
    · exact ⟨_, h2, Sl.nil _ _, h3⟩
    · cases h1
  | true =>
    rw [if_pos rfl]
    rcases h with ⟨h1, h2, h3⟩ | ⟨h1, h2⟩
    · cases h1
    · exact tone_list h2
theorem splitL_len (ai an bi rb : Int) : (splitL ai an bi rb).length ≤ 2 := by unfold splitL; (repeat' split) <;> simp
theorem tturn_len (ak : UInt8) (ai an : Int) (bk : UInt8) (bi bn rb : Int) (left : Bool) : (tturn ak ai an bk bi bn rb left).length ≤ 2 := by
  have := splitL_len ai an bi rb
  unfold tturn; (repeat' split) <;> simp <;> omega
theorem besL_len (x y : Cp) (left : Bool) : (besL x y left).length ≤ 1000 := by
  have h := tturn_len x.kind x.i x.n y.kind y.i y.n (Lib.runeCount y.s : Nat) left
  unfold besL
  repeat' split
  · simp
  · cases turnL x.kind x.i x.j y.kind y.i y.j left <;> simp
  · rw [List.length_map]; omega
  · simp
  · simp
theorem besL_fit {x y : Cp} {left : Bool} (hf : Fit x) : ∀ c ∈ besL x y left, Fit c := by
  intro c
  unfold besL
  repeat' split
  · intro h; rw [List.mem_singleton.1 h]; exact hf
  · intro h
    obtain ⟨q, _, rfl⟩ := List.mem_map.1 h
    exact hf
  · intro h
    obtain ⟨q, _, rfl⟩ := List.mem_map.1 h
    exact hf
  · intro h; cases h
  · intro h; rw [List.mem_singleton.1 h]; exact hf
set_option maxRecDepth 20000 in
set_option maxHeartbeats 3200000 in
theorem turn_same (w : World) (S S2 : BS) (u t : Value) (x y : Cp) (left : Bool) (hx : CAt w S u x) (hy : CAt w S2 t y) (hf : Fit x) (bx : Bd x) (by_ : Bd y) (hn : y.path <+: x.path) (hk : ¬ y.path.length < x.path.length) :
    Calls Tryd.prog 13 #[u, t, .bool left] w (TList w (besL x y left)) := by
  obtain ⟨hp, hv⟩ := hf
  obtain ⟨pv, lv, ov, rfl, h1, h2, h3⟩ := hx.cut
  obtain ⟨Ap, cp, rfl, _⟩ := h1.shape
  obtain ⟨Al, cl, rfl, _⟩ := h2.shape
  obtain ⟨Ao, co, rfl, _⟩ := h3.shape
  obtain ⟨qv, mv, nv, rfl, k1, k2, k3⟩ := hy.cut
  obtain ⟨Bp, dp, rfl, _⟩ := k1.shape
  obtain ⟨Bl, dl, rfl, _⟩ := k2.shape
  obtain ⟨Bo, do_, rfl, _⟩ := k3.shape
  obtain ⟨W, hW⟩ : ∃ W, (w.alloc (.cells (cpCells x (.slice Ap x.path.length cp) (.slice Al x.v.l.length cl) (.slice Ao x.v.o.length co)) TCMP)).alloc (.cells (cpCells y (.slice Bp y.path.length dp) (.slice Bl y.v.l.length dl) (.slice Bo y.v.o.length do_)) TCMP) = W := ⟨_, rfl⟩
  have hE : Ext w W := by rw [← hW]; exact ((Keep.refl _ _).alloc _).alloc _
  have hsz : W.heap.size = w.heap.size + 2 := by rw [← hW]; simp
  have hb : Blk W w.heap.size TCMP (cpCells x (.slice Ap x.path.length cp) (.slice Al x.v.l.length cl) (.slice Ao x.v.o.length co)) := by rw [← hW]; exact (Blk.new _ _ _).alloc _
  have hc : Blk W (w.heap.size + 1) TCMP (cpCells y (.slice Bp y.path.length dp) (.slice Bl y.v.l.length dl) (.slice Bo y.v.o.length do_)) := by
    have := Blk.new (w.alloc (.cells (cpCells x (.slice Ap x.path.length cp) (.slice Al x.v.l.length cl) (.slice Ao x.v.o.length co)) TCMP)) TCMP (cpCells y (.slice Bp y.path.length dp) (.slice Bl y.v.l.length dl) (.slice Bo y.v.o.length do_))
    rw [World.size_alloc, hW] at this
    exact this
  have HX := hid (show CAt W (fun k => k < w.heap.size) (.agg (cpCells x (.slice Ap x.path.length cp) (.slice Al x.v.l.length cl) (.slice Ao x.v.o.length co))) x from (CAt.ext ⟨_, _, _, rfl, h1, h2, h3⟩ hE).more fun k _ h => h.2)
  have HY := hid (show CAt W (fun k => k < w.heap.size) (.agg (cpCells y (.slice Bp y.path.length dp) (.slice Bl y.v.l.length dl) (.slice Bo y.v.o.length do_))) y from (CAt.ext ⟨_, _, _, rfl, k1, k2, k3⟩ hE).more fun k _ h => h.2)
  have HQ := hid ((k1.more (S' := fun k => k < w.heap.size) ESt.ok fun k _ h => h.2).ext ESt.ok hE)
  have HB := hid hb
  have HC := hid hc
  have HE := hid hE
  have HN := hid hn
  have a0 := hb.cell 0
  have a1 := hb.cell 1
  have a2 := hb.cell 2
  have a3 := hb.cell 3
  have a4 := hb.cell 4
  have a5 := hb.cell 5
  have a6 := hb.cell 6
  have a7 := hb.cell 7
  have a8 := hb.cell 8
  have a9 := hb.cell 9
  have a10 := hb.cell 10
  have a11 := hb.cell 11
  simp at a0 a1 a2 a3 a4 a5 a6 a7 a8 a9 a10 a11
  have HK := hid hk
  have BX := hid bx
  have BY := hid by_
  clear h1 h2 h3 k1 k2 k3 hk hE hb hc hx hy hn bx by_
  go_enter Tryd.func13, Tryd.ntmps13
  go_wp2_with fail
  refine (comp_copy W _ _ x HX.out hp hv).mono ?_
  rintro e X1 ⟨u', rfl, hu', hE1⟩
  obtain ⟨pv2, lv2, ov2, rfl, g1, g2, g3⟩ := hu'
  obtain ⟨Ap2, cp2, rfl, _⟩ := g1.shape
  obtain ⟨Al2, cl2, rfl, _⟩ := g2.shape
  obtain ⟨Ao2, co2, rfl, _⟩ := g3.shape
  have hs1 := hE1.size
  have hb := HB.out.keep hE1 id
  obtain ⟨X2, hX2⟩ : ∃ X2, ((((((((((((X1.setCell ⟨w.heap.size, 0, none⟩ (.int .u8 (x.kind.toNat : Int))).setCell ⟨w.heap.size, 1, none⟩ (.slice Ap2 x.path.length cp2)).setCell ⟨w.heap.size, 2, none⟩ (.string x.key)).setCell ⟨w.heap.size, 3, none⟩ (.int .i64 x.i)).setCell ⟨w.heap.size, 4, none⟩ (.int .i64 x.j)).setCell ⟨w.heap.size, 5, none⟩ (.int .i64 x.n)).setCell ⟨w.heap.size, 6, none⟩ (.int .u8 (x.v.kind.toNat : Int))).setCell ⟨w.heap.size, 7, none⟩ (.int .i64 x.v.n)).setCell ⟨w.heap.size, 8, none⟩ (.string x.v.s)).setCell ⟨w.heap.size, 9, none⟩ (.slice Al2 x.v.l.length cl2)).setCell ⟨w.heap.size, 10, none⟩ (.slice Ao2 x.v.o.length co2)).setCell ⟨w.heap.size, 11, none⟩ (.string x.s)) = X2 := ⟨_, rfl⟩
  have hk : Keep (· = w.heap.size) X1 X2 := by rw [← hX2]; exact (((((((((((((Keep.refl (· = w.heap.size) X1).set1 0 _).set1 1 _).set1 2 _).set1 3 _).set1 4 _).set1 5 _).set1 6 _).set1 7 _).set1 8 _).set1 9 _).set1 10 _).set1 11 _)
  have hb2 : Blk X2 w.heap.size TCMP (cpCells x (.slice Ap2 x.path.length cp2) (.slice Al2 x.v.l.length cl2) (.slice Ao2 x.v.o.length co2)) := by rw [← hX2]; exact set12f hb rfl (.int .u8 (x.kind.toNat : Int)) (.slice Ap2 x.path.length cp2) (.string x.key) (.int .i64 x.i) (.int .i64 x.j) (.int .i64 x.n) (.int .u8 (x.v.kind.toNat : Int)) (.int .i64 x.v.n) (.string x.v.s) (.slice Al2 x.v.l.length cl2) (.slice Ao2 x.v.o.length co2) (.string x.s)
  have HG1 := hid (g1.keep ESt.ok hk fun k h e => by omega)
  have HG2 := hid (g2.keep EVal.ok hk fun k h e => by omega)
  have HG3 := hid (g3.keep EField.ok hk fun k h e => by omega)
  have HB2 := hid hb2
  have HC2 := hid ((HC.out.keep hE1 id).keep hk (by omega))
  have HQ2 := hid ((HQ.out.ext ESt.ok hE1).keep ESt.ok hk fun k h e => by omega)
  have HY2 := hid ((HY.out.ext hE1).keep hk fun k h e => by omega)
  have HE2 := hid ((HE.out.ext hE1).trans hk fun k hk e => by omega)
  have HX2 := hid hX2
  have b0 := hb.cell 0
  have f0 := hb.frozen 0
  have b1 := hb.cell 1
  have f1 := hb.frozen 1
  have b2 := hb.cell 2
  have f2 := hb.frozen 2
  have b3 := hb.cell 3
  have f3 := hb.frozen 3
  have b4 := hb.cell 4
  have f4 := hb.frozen 4
  have b5 := hb.cell 5
  have f5 := hb.frozen 5
  have b6 := hb.cell 6
  have f6 := hb.frozen 6
  have b7 := hb.cell 7
  have f7 := hb.frozen 7
  have b8 := hb.cell 8
  have f8 := hb.frozen 8
  have b9 := hb.cell 9
  have f9 := hb.frozen 9
  have b10 := hb.cell 10
  have f10 := hb.frozen 10
  have b11 := hb.cell 11
  have f11 := hb.frozen 11
  simp at b0 b1 b2 b3 b4 b5 b6 b7 b8 b9 b10 b11
  have y1 := (HC.out.keep hE1 id).cell 1
  simp at y1
  clear hX2 hk hb2 hb g1 g2 g3 hE1 HB HC HQ HX HY a0 a1 a2 a3 a4 a5 a6 a7 a8 a9 a10 a11
  go_wp2_with fail
  rw [HX2.out]
  clear y1 b0 b1 b2 b3 b4 b5 b6 b7 b8 b9 b10 b11 f0 f1 f2 f3 f4 f5 f6 f7 f8 f9 f10 f11
  refine (begins_ok X2 _ _ _ _ _ _ HG1.out HQ2.out).mono ?_
  intro e X3 hbeg
  obtain ⟨rfl, hE3⟩ := hbeg.yes HN.out
  have HB3 := hid (HB2.out.keep hE3 id)
  have HCA := hid (show CAt X3 (fun k => k < X3.heap.size) (.agg (cpCells x (.slice Ap2 x.path.length cp2) (.slice Al2 x.v.l.length cl2) (.slice Ao2 x.v.o.length co2))) x from (CAt.cut ⟨_, _, _, rfl, HG1.out.ext ESt.ok hE3, HG2.out.ext EVal.ok hE3, HG3.out.ext EField.ok hE3⟩).more fun k _ h => h.2)
  have HY3 := hid (HY2.out.ext hE3)
  have HE3 := hid (HE2.out.ext hE3)
  have HC3 := hid (HC2.out.keep hE3 id)
  clear hbeg hE3 HB2 HG1 HG2 HG3 HQ2 HE2 HX2 HY2 HC2
  have b0 := HB3.out.cell 0
  have b1 := HB3.out.cell 1
  have b2 := HB3.out.cell 2
  have b3 := HB3.out.cell 3
  have b4 := HB3.out.cell 4
  have b5 := HB3.out.cell 5
  have b6 := HB3.out.cell 6
  have b7 := HB3.out.cell 7
  have b8 := HB3.out.cell 8
  have b9 := HB3.out.cell 9
  have b10 := HB3.out.cell 10
  have b11 := HB3.out.cell 11
  simp at b0 b1 b2 b3 b4 b5 b6 b7 b8 b9 b10 b11
  have hklX : ¬ ((y.path.length : Int) < x.path.length) := by have := HK.out; omega
  have z0 := HC3.out.cell 0
  have z1 := HC3.out.cell 1
  have z2 := HC3.out.cell 2
  have z3 := HC3.out.cell 3
  have z4 := HC3.out.cell 4
  have z5 := HC3.out.cell 5
  have z6 := HC3.out.cell 6
  have z7 := HC3.out.cell 7
  have z8 := HC3.out.cell 8
  have z9 := HC3.out.cell 9
  have z10 := HC3.out.cell 10
  have z11 := HC3.out.cell 11
  simp at z0 z1 z2 z3 z4 z5 z6 z7 z8 z9 z10 z11
  go_wp2_with fail
  refine (beside_ok X3 _ _ _ _ x y left HCA.out HY3.out BX.out BY.out).mono ?_
  rintro e X4 ⟨v, rfl, ho, hE4⟩
  have HO := hid ho
  have HE4 := hid (HE3.out.ext hE4)
  have HS3 := hid HE3.out.size
  clear hE4 ho b0 b1 b2 b3 b4 b5 b6 b7 b8 b9 b10 b11 z0 z1 z2 z3 z4 z5 z6 z7 z8 z9 z10 z11
  go_wp2_with fail
  refine (own_list X4 _ _ v _ HO.out (fun g e h => by have := (HO.out.lt e).1; omega) (besL_len _ _ _) (besL_fit ⟨hp, hv⟩)).mono ?_
  rintro e X5 ⟨rfl, hs5, hk5⟩
  have hOl := HO.out
  obtain ⟨A5, c5, rfl, _⟩ := hOl.shape
  have HS5 := hid hs5
  have HK5 := hid hk5
  have HOL := hid hOl
  clear hs5 hk5 hOl
  go_wp2
  go_ret
  exact ⟨_, rfl, HS5.out, HE4.out.trans HK5.out fun k hk e => by have := (HOL.out.lt e).1; have := HS3.out; omega⟩
theorem turn_list (w : World) (S S2 : BS) (u t : Value) (x y : Cp) (left : Bool) (hx : CAt w S u x) (hy : CAt w S2 t y) (hf : Fit x) (bx : Bd x) (by_ : Bd y) (b : Bool) (hb : b = true ↔ y.path <+: x.path) :
    Calls Tryd.prog 13 #[u, t, .bool left] w (TList w (turnC b x y left)) := by
  unfold turnC
  by_cases hbt : b = true
  · have hn := hb.1 hbt
    rw [if_pos hbt]
    by_cases hk : y.path.length < x.path.length
    · have hs : x.path[y.path.length]? = some x.path[y.path.length] := List.getElem?_eq_getElem hk
      rw [hs]
      have h := turn_below w S S2 u t x y _ _ left hx hy hf.1 hf.2 hn hk rfl hs (bx.p _ (List.getElem_mem hk)) by_.i by_.j
      exact h.mono fun e w' h => bel_list h
    · rw [List.getElem?_eq_none (by omega)]
      exact turn_same w S S2 u t x y left hx hy hf bx by_ hn hk
  · have hn : ¬ y.path <+: x.path := fun h => hbt (hb.2 h)
    rw [if_neg hbt]
    exact (turn_apart w S S2 u t x y left hx hy hf.1 hf.2 hn).mono fun e w' h => tone_list h
end Go.Proofs.YtioplgfopillnaaDoor

/- The reference of chapter 05: move (kind 4). -/
set_option linter.unusedSimpArgs false
set_option linter.unusedVariables false
namespace Go.Proofs.YtioplgfopillnaaDoor
open Go.RowKit

set_option maxHeartbeats 12800000 in
theorem rmove_4 (ak : UInt8) (ap akey ann a0 a1 a2 a3 a4 as_ p key nn v0 v1 v2 v3 v4 s : Value) (ai aj bi bj : Int) (left : Bool) (w : World) (hai : Sm ai) (haj : Sm aj) (hbi : Sm bi) (hbj : Sm bj) :
    Calls Tryd.prog 63 #[cmpV (U8 ak) ap akey ai aj ann a0 a1 a2 a3 a4 as_, cmpV (U8 4) p key bi bj nn v0 v1 v2 v3 v4 s, .bool left] w (CompIs (U8 ak) ap akey ann a0 a1 a2 a3 a4 as_ w (moveL ai aj 4 bi bj left)) := by
  have hA : Blk ((w.alloc (.cells (aC ak ai aj ap akey ann a0 a1 a2 a3 a4 as_) 33)).alloc (.cells (aC 4 bi bj p key nn v0 v1 v2 v3 v4 s) 33)) w.heap.size 33 (aC ak ai aj ap akey ann a0 a1 a2 a3 a4 as_) := (Blk.new _ _ _).alloc _
  have HA := hid hA
  have HE1 := hid (show Ext w ((w.alloc (.cells (aC ak ai aj ap akey ann a0 a1 a2 a3 a4 as_) 33)).alloc (.cells (aC 4 bi bj p key nn v0 v1 v2 v3 v4 s) 33)) from ((Keep.refl _ _).alloc _).alloc _)
  have HAT := hid (fun w => rat_any 4 p key nn v0 v1 v2 v3 v4 s bi bj ai w hai hbi hbj)
  have b1 := bl_bd ai bi
  have b2 := bl_bd bi ai
  have b3 := bl_bd (bi - bl ai bi) aj
  have b4 := bl_bd (ai - bl bi ai) bj
  have L1 := fun w => less_any bi ai w hbi
  have L2 := fun w => less_any ai bi w hai
  have L3 := fun w => less_any aj (bi - bl ai bi) w haj
  have L4 := fun w => less_any bj (ai - bl bi ai) w hbj
  obtain ⟨hai1, hai2⟩ := hai
  obtain ⟨haj1, haj2⟩ := haj
  obtain ⟨hbi1, hbi2⟩ := hbi
  obtain ⟨hbj1, hbj2⟩ := hbj
  obtain ⟨x, hx⟩ : ∃ x, x = aj - bl (bi - bl ai bi) aj := ⟨_, rfl⟩
  obtain ⟨y, hy⟩ : ∃ y, y = bj - bl (ai - bl bi ai) bj := ⟨_, rfl⟩
  obtain ⟨g, hg⟩ : ∃ g, g = bi - bl ai bi := ⟨_, rfl⟩
  obtain ⟨q, hq⟩ : ∃ q, q = ai - bl bi ai := ⟨_, rfl⟩
  rw [← hg] at L1 L3 hx
  rw [← hq] at L2 L4 hy
  rw [← hx] at L3
  rw [← hy] at L4
  have hxb : -1099511627777 ≤ x ∧ x ≤ 1099511627776 := by rw [← hg] at b3; omega
  have hyb : -1099511627777 ≤ y ∧ y ≤ 1099511627776 := by rw [← hq] at b4; omega
  have HL1 := hid L1
  have HL2 := hid L2
  have HL3 := hid L3
  have HL4 := hid L4
  have HX := hid hx
  have HY := hid hy
  have HG := hid hg
  have HQ := hid hq
  clear hA L1 L2 L3 L4 hx hy hg hq b1 b2 b3 b4
  rcases tri g aj with ⟨t1, t2, t4⟩ | rfl | ⟨t1, t2, t4, t3⟩
  all_goals
    cases left
    all_goals
      go_enter Tryd.func63, Tryd.ntmps63
      go_wp2_with (first
                | (go_at_call 88; refine (HL1.out _).mono ?_; rintro e w' ⟨rfl, rfl⟩)
                | (go_at_call 88; refine (HL2.out _).mono ?_; rintro e w' ⟨rfl, rfl⟩)
                | (go_at_call 88; refine (HL3.out _).mono ?_; rintro e w' ⟨rfl, rfl⟩)
                | (go_at_call 88; refine (HL4.out _).mono ?_; rintro e w' ⟨rfl, rfl⟩)
                | (go_at_call 60; refine (HAT.out _).mono ?_; rintro e w2 ⟨rfl, hT2⟩; have hA2 := HA.out.keep hT2 id; have HT2 := hid hT2;
                   have qa0 := hA2.cell 0; have qa1 := hA2.cell 1; have qa2 := hA2.cell 2; have qa3 := hA2.cell 3; have qa4 := hA2.cell 4; have qa5 := hA2.cell 5; have qa6 := hA2.cell 6; have qa7 := hA2.cell 7; have qa8 := hA2.cell 8; have qa9 := hA2.cell 9; have qa10 := hA2.cell 10; have qa11 := hA2.cell 11;
                   have f3 := hA2.frozen 3; have f4 := hA2.frozen 4;
                   simp at qa0 qa1 qa2 qa3 qa4 qa5 qa6 qa7 qa8 qa9 qa10 qa11; clear hA2 hT2))
      go_ret
      refine comp_some _ _ _ _ _ _ _ _ _ _ (by first | (simp [moveL, targetL, ← HG.out, ← HQ.out, ← HX.out, ← HY.out]; done) | (simp [moveL, targetL, ← HG.out, ← HQ.out, ← HX.out, ← HY.out, up_eq]; done) | (simp [moveL, targetL, ← HG.out, ← HQ.out, ← HX.out, ← HY.out, up_lt t1]; done) | (simp [moveL, targetL, ← HG.out, ← HQ.out, ← HX.out, ← HY.out, up_gt t1]; done)) (by simp) (ext_own (HE1.out.ext HT2.out) (Nat.le_refl _) (((Keep.refl (· = w.heap.size) _).set1 3 _).set1 4 _))
end Go.Proofs.YtioplgfopillnaaDoor

/- The reference of chapter 05: move (kind 5). -/
set_option linter.unusedSimpArgs false
set_option linter.unusedVariables false
namespace Go.Proofs.YtioplgfopillnaaDoor
open Go.RowKit

set_option maxHeartbeats 12800000 in
theorem rmove_5 (ak : UInt8) (ap akey ann a0 a1 a2 a3 a4 as_ p key nn v0 v1 v2 v3 v4 s : Value) (ai aj bi bj : Int) (left : Bool) (w : World) (hai : Sm ai) (haj : Sm aj) (hbi : Sm bi) (hbj : Sm bj) :
    Calls Tryd.prog 63 #[cmpV (U8 ak) ap akey ai aj ann a0 a1 a2 a3 a4 as_, cmpV (U8 5) p key bi bj nn v0 v1 v2 v3 v4 s, .bool left] w (CompIs (U8 ak) ap akey ann a0 a1 a2 a3 a4 as_ w (moveL ai aj 5 bi bj left)) := by
  have hA : Blk ((w.alloc (.cells (aC ak ai aj ap akey ann a0 a1 a2 a3 a4 as_) 33)).alloc (.cells (aC 5 bi bj p key nn v0 v1 v2 v3 v4 s) 33)) w.heap.size 33 (aC ak ai aj ap akey ann a0 a1 a2 a3 a4 as_) := (Blk.new _ _ _).alloc _
  have HA := hid hA
  have HE1 := hid (show Ext w ((w.alloc (.cells (aC ak ai aj ap akey ann a0 a1 a2 a3 a4 as_) 33)).alloc (.cells (aC 5 bi bj p key nn v0 v1 v2 v3 v4 s) 33)) from ((Keep.refl _ _).alloc _).alloc _)
  have HAT := hid (fun w => rat_any 5 p key nn v0 v1 v2 v3 v4 s bi bj ai w hai hbi hbj)
  have b1 := bl_bd ai bi
  have b2 := bl_bd bi ai
  have b3 := bl_bd (bi - bl ai bi) aj
  have b4 := bl_bd (ai - bl bi ai) bj
  have L1 := fun w => less_any bi ai w hbi
  have L2 := fun w => less_any ai bi w hai
  have L3 := fun w => less_any aj (bi - bl ai bi) w haj
  have L4 := fun w => less_any bj (ai - bl bi ai) w hbj
  obtain ⟨hai1, hai2⟩ := hai
  obtain ⟨haj1, haj2⟩ := haj
  obtain ⟨hbi1, hbi2⟩ := hbi
  obtain ⟨hbj1, hbj2⟩ := hbj
  obtain ⟨x, hx⟩ : ∃ x, x = aj - bl (bi - bl ai bi) aj := ⟨_, rfl⟩
  obtain ⟨y, hy⟩ : ∃ y, y = bj - bl (ai - bl bi ai) bj := ⟨_, rfl⟩
  obtain ⟨g, hg⟩ : ∃ g, g = bi - bl ai bi := ⟨_, rfl⟩
  obtain ⟨q, hq⟩ : ∃ q, q = ai - bl bi ai := ⟨_, rfl⟩
  rw [← hg] at L1 L3 hx
  rw [← hq] at L2 L4 hy
  rw [← hx] at L3
  rw [← hy] at L4
  have hxb : -1099511627777 ≤ x ∧ x ≤ 1099511627776 := by rw [← hg] at b3; omega
  have hyb : -1099511627777 ≤ y ∧ y ≤ 1099511627776 := by rw [← hq] at b4; omega
  have HL1 := hid L1
  have HL2 := hid L2
  have HL3 := hid L3
  have HL4 := hid L4
  have HX := hid hx
  have HY := hid hy
  have HG := hid hg
  have HQ := hid hq
  clear hA L1 L2 L3 L4 hx hy hg hq b1 b2 b3 b4
  by_cases he : ai = bi
  · subst he
    go_enter Tryd.func63, Tryd.ntmps63
    go_wp2_with (first | (go_at_call 88; refine (HL1.out _).mono ?_; rintro e w' ⟨rfl, rfl⟩))
    go_ret
    exact comp_none _ _ _ _ _ _ _ _ _ _ (by simp [moveL]; done) HE1.out
  · have he' : (ai == bi) = false := by simpa using he
    have HNE := hid he
    clear he
    go_enter Tryd.func63, Tryd.ntmps63
    go_wp2_with fail
    refine (HL1.out _).mono ?_
    rintro e w' ⟨rfl, rfl⟩
    go_wp2_with fail
    refine (HL3.out _).mono ?_
    rintro e w' ⟨rfl, rfl⟩
    go_wp2_with fail
    refine (HAT.out _).mono ?_
    rintro e w2 ⟨rfl, hT2⟩
    have hA2 := HA.out.keep hT2 id
    have HT2 := hid hT2
    have qa0 := hA2.cell 0
    have qa1 := hA2.cell 1
    have qa2 := hA2.cell 2
    have qa3 := hA2.cell 3
    have qa4 := hA2.cell 4
    have qa5 := hA2.cell 5
    have qa6 := hA2.cell 6
    have qa7 := hA2.cell 7
    have qa8 := hA2.cell 8
    have qa9 := hA2.cell 9
    have qa10 := hA2.cell 10
    have qa11 := hA2.cell 11
    simp at qa0 qa1 qa2 qa3 qa4 qa5 qa6 qa7 qa8 qa9 qa10 qa11
    have f3 := hA2.frozen 3
    have f4 := hA2.frozen 4
    clear hA2 hT2
    go_wp2_with fail
    go_ret
    refine comp_some _ _ _ _ _ _ _ _ _ _ (by first | (simp [moveL, targetL, ← HG.out, ← HQ.out, ← HX.out, ← HY.out, HNE.out]; done)) (by simp) (ext_own (HE1.out.ext HT2.out) (Nat.le_refl _) (((Keep.refl (· = w.heap.size) _).set1 3 _).set1 4 _))
end Go.Proofs.YtioplgfopillnaaDoor

/- The reference of chapter 05: move (kind 6). -/
set_option linter.unusedSimpArgs false
set_option linter.unusedVariables false
namespace Go.Proofs.YtioplgfopillnaaDoor
open Go.RowKit

set_option maxHeartbeats 12800000 in
theorem rmove_6 (ak : UInt8) (ap akey ann a0 a1 a2 a3 a4 as_ p key nn v0 v1 v2 v3 v4 s : Value) (ai aj bi bj : Int) (left : Bool) (w : World) (hai : Sm ai) (haj : Sm aj) (hbi : Sm bi) (hbj : Sm bj) :
    Calls Tryd.prog 63 #[cmpV (U8 ak) ap akey ai aj ann a0 a1 a2 a3 a4 as_, cmpV (U8 6) p key bi bj nn v0 v1 v2 v3 v4 s, .bool left] w (CompIs (U8 ak) ap akey ann a0 a1 a2 a3 a4 as_ w (moveL ai aj 6 bi bj left)) := by
  have hA : Blk ((w.alloc (.cells (aC ak ai aj ap akey ann a0 a1 a2 a3 a4 as_) 33)).alloc (.cells (aC 6 bi bj p key nn v0 v1 v2 v3 v4 s) 33)) w.heap.size 33 (aC ak ai aj ap akey ann a0 a1 a2 a3 a4 as_) := (Blk.new _ _ _).alloc _
  have HA := hid hA
  have HE1 := hid (show Ext w ((w.alloc (.cells (aC ak ai aj ap akey ann a0 a1 a2 a3 a4 as_) 33)).alloc (.cells (aC 6 bi bj p key nn v0 v1 v2 v3 v4 s) 33)) from ((Keep.refl _ _).alloc _).alloc _)
  have HAT := hid (fun w => rat_any 6 p key nn v0 v1 v2 v3 v4 s bi bj ai w hai hbi hbj)
  have b1 := bl_bd ai bi
  have b2 := bl_bd bi ai
  have b3 := bl_bd (bi - bl ai bi) aj
  have b4 := bl_bd (ai - bl bi ai) bj
  have L1 := fun w => less_any bi ai w hbi
  have L2 := fun w => less_any ai bi w hai
  have L3 := fun w => less_any aj (bi - bl ai bi) w haj
  have L4 := fun w => less_any bj (ai - bl bi ai) w hbj
  obtain ⟨hai1, hai2⟩ := hai
  obtain ⟨haj1, haj2⟩ := haj
  obtain ⟨hbi1, hbi2⟩ := hbi
  obtain ⟨hbj1, hbj2⟩ := hbj
  obtain ⟨x, hx⟩ : ∃ x, x = aj - bl (bi - bl ai bi) aj := ⟨_, rfl⟩
  obtain ⟨y, hy⟩ : ∃ y, y = bj - bl (ai - bl bi ai) bj := ⟨_, rfl⟩
  obtain ⟨g, hg⟩ : ∃ g, g = bi - bl ai bi := ⟨_, rfl⟩
  obtain ⟨q, hq⟩ : ∃ q, q = ai - bl bi ai := ⟨_, rfl⟩
  rw [← hg] at L1 L3 hx
  rw [← hq] at L2 L4 hy
  rw [← hx] at L3
  rw [← hy] at L4
  have hxb : -1099511627777 ≤ x ∧ x ≤ 1099511627776 := by rw [← hg] at b3; omega
  have hyb : -1099511627777 ≤ y ∧ y ≤ 1099511627776 := by rw [← hq] at b4; omega
  have HL1 := hid L1
  have HL2 := hid L2
  have HL3 := hid L3
  have HL4 := hid L4
  have HX := hid hx
  have HY := hid hy
  have HG := hid hg
  have HQ := hid hq
  clear hA L1 L2 L3 L4 hx hy hg hq b1 b2 b3 b4
  go_enter Tryd.func63, Tryd.ntmps63
  go_wp2_with (first
            | (go_at_call 88; refine (HL1.out _).mono ?_; rintro e w' ⟨rfl, rfl⟩)
            | (go_at_call 88; refine (HL2.out _).mono ?_; rintro e w' ⟨rfl, rfl⟩)
            | (go_at_call 88; refine (HL3.out _).mono ?_; rintro e w' ⟨rfl, rfl⟩)
            | (go_at_call 88; refine (HL4.out _).mono ?_; rintro e w' ⟨rfl, rfl⟩)
            | (go_at_call 60; refine (HAT.out _).mono ?_; rintro e w2 ⟨rfl, hT2⟩; have hA2 := HA.out.keep hT2 id; have HT2 := hid hT2;
               have qa0 := hA2.cell 0; have qa1 := hA2.cell 1; have qa2 := hA2.cell 2; have qa3 := hA2.cell 3; have qa4 := hA2.cell 4; have qa5 := hA2.cell 5; have qa6 := hA2.cell 6; have qa7 := hA2.cell 7; have qa8 := hA2.cell 8; have qa9 := hA2.cell 9; have qa10 := hA2.cell 10; have qa11 := hA2.cell 11;
               have f3 := hA2.frozen 3; have f4 := hA2.frozen 4;
               simp at qa0 qa1 qa2 qa3 qa4 qa5 qa6 qa7 qa8 qa9 qa10 qa11; clear hA2 hT2))
  go_ret
  refine comp_some _ _ _ _ _ _ _ _ _ _ (by simp [moveL, targetL]; done) (by simp) (((Keep.refl _ _).alloc _).alloc _)
end Go.Proofs.YtioplgfopillnaaDoor

/- The reference of chapter 05: move (kind 7). -/
set_option linter.unusedSimpArgs false
set_option linter.unusedVariables false
namespace Go.Proofs.YtioplgfopillnaaDoor
open Go.RowKit

set_option maxHeartbeats 12800000 in
theorem rmove_7 (ak : UInt8) (ap akey ann a0 a1 a2 a3 a4 as_ p key nn v0 v1 v2 v3 v4 s : Value) (ai aj bi bj : Int) (left : Bool) (w : World) (hai : Sm ai) (haj : Sm aj) (hbi : Sm bi) (hbj : Sm bj) :
    Calls Tryd.prog 63 #[cmpV (U8 ak) ap akey ai aj ann a0 a1 a2 a3 a4 as_, cmpV (U8 7) p key bi bj nn v0 v1 v2 v3 v4 s, .bool left] w (CompIs (U8 ak) ap akey ann a0 a1 a2 a3 a4 as_ w (moveL ai aj 7 bi bj left)) := by
  have hA : Blk ((w.alloc (.cells (aC ak ai aj ap akey ann a0 a1 a2 a3 a4 as_) 33)).alloc (.cells (aC 7 bi bj p key nn v0 v1 v2 v3 v4 s) 33)) w.heap.size 33 (aC ak ai aj ap akey ann a0 a1 a2 a3 a4 as_) := (Blk.new _ _ _).alloc _
  have HA := hid hA
  have HE1 := hid (show Ext w ((w.alloc (.cells (aC ak ai aj ap akey ann a0 a1 a2 a3 a4 as_) 33)).alloc (.cells (aC 7 bi bj p key nn v0 v1 v2 v3 v4 s) 33)) from ((Keep.refl _ _).alloc _).alloc _)
  have HAT := hid (fun w => rat_any 7 p key nn v0 v1 v2 v3 v4 s bi bj ai w hai hbi hbj)
  have b1 := bl_bd ai bi
  have b2 := bl_bd bi ai
  have b3 := bl_bd (bi - bl ai bi) aj
  have b4 := bl_bd (ai - bl bi ai) bj
  have L1 := fun w => less_any bi ai w hbi
  have L2 := fun w => less_any ai bi w hai
  have L3 := fun w => less_any aj (bi - bl ai bi) w haj
  have L4 := fun w => less_any bj (ai - bl bi ai) w hbj
  obtain ⟨hai1, hai2⟩ := hai
  obtain ⟨haj1, haj2⟩ := haj
  obtain ⟨hbi1, hbi2⟩ := hbi
  obtain ⟨hbj1, hbj2⟩ := hbj
  obtain ⟨x, hx⟩ : ∃ x, x = aj - bl (bi - bl ai bi) aj := ⟨_, rfl⟩
  obtain ⟨y, hy⟩ : ∃ y, y = bj - bl (ai - bl bi ai) bj := ⟨_, rfl⟩
  obtain ⟨g, hg⟩ : ∃ g, g = bi - bl ai bi := ⟨_, rfl⟩
  obtain ⟨q, hq⟩ : ∃ q, q = ai - bl bi ai := ⟨_, rfl⟩
  rw [← hg] at L1 L3 hx
  rw [← hq] at L2 L4 hy
  rw [← hx] at L3
  rw [← hy] at L4
  have hxb : -1099511627777 ≤ x ∧ x ≤ 1099511627776 := by rw [← hg] at b3; omega
  have hyb : -1099511627777 ≤ y ∧ y ≤ 1099511627776 := by rw [← hq] at b4; omega
  have HL1 := hid L1
  have HL2 := hid L2
  have HL3 := hid L3
  have HL4 := hid L4
  have HX := hid hx
  have HY := hid hy
  have HG := hid hg
  have HQ := hid hq
  clear hA L1 L2 L3 L4 hx hy hg hq b1 b2 b3 b4
  by_cases he : ai = bi
  · subst he
    cases left
    · go_enter Tryd.func63, Tryd.ntmps63
      go_wp2_with (first | (go_at_call 88; refine (HL1.out _).mono ?_; rintro e w' ⟨rfl, rfl⟩))
      go_ret
      exact comp_none _ _ _ _ _ _ _ _ _ _ (by simp [moveL]; done) HE1.out
    · go_enter Tryd.func63, Tryd.ntmps63
      go_wp2_with (first | (go_at_call 88; refine (HL1.out _).mono ?_; rintro e w' ⟨rfl, rfl⟩))
      go_ret
      refine comp_some _ _ _ _ _ _ _ _ _ _ (by simp [moveL]; done) (by simp) (((Keep.refl _ _).alloc _).alloc _)
  · have he' : (ai == bi) = false := by simpa using he
    have HNE := hid he
    clear he
    rcases tri y x with ⟨t1, t2, t4⟩ | rfl | ⟨t1, t2, t4, t3⟩
    all_goals
      cases left
      all_goals
        go_enter Tryd.func63, Tryd.ntmps63
        go_wp2_with fail
        refine (HL1.out _).mono ?_
        rintro e w' ⟨rfl, rfl⟩
        go_wp2_with fail
        refine (HL2.out _).mono ?_
        rintro e w' ⟨rfl, rfl⟩
        go_wp2_with fail
        refine (HL3.out _).mono ?_
        rintro e w' ⟨rfl, rfl⟩
        go_wp2_with fail
        refine (HL4.out _).mono ?_
        rintro e w' ⟨rfl, rfl⟩
        go_wp2_with fail
        refine (HAT.out _).mono ?_
        rintro e w2 ⟨rfl, hT2⟩
        have hA2 := HA.out.keep hT2 id
        have HT2 := hid hT2
        have qa0 := hA2.cell 0
        have qa1 := hA2.cell 1
        have qa2 := hA2.cell 2
        have qa3 := hA2.cell 3
        have qa4 := hA2.cell 4
        have qa5 := hA2.cell 5
        have qa6 := hA2.cell 6
        have qa7 := hA2.cell 7
        have qa8 := hA2.cell 8
        have qa9 := hA2.cell 9
        have qa10 := hA2.cell 10
        have qa11 := hA2.cell 11
        simp at qa0 qa1 qa2 qa3 qa4 qa5 qa6 qa7 qa8 qa9 qa10 qa11
        have f3 := hA2.frozen 3
        have f4 := hA2.frozen 4
        clear hA2 hT2
        go_wp2_with fail
        go_ret
        refine comp_some _ _ _ _ _ _ _ _ _ _ (by first | (simp [moveL, targetL, ← HG.out, ← HQ.out, ← HX.out, ← HY.out, HNE.out]; done) | (simp [moveL, targetL, ← HG.out, ← HQ.out, ← HX.out, ← HY.out, HNE.out, up_eq]; done) | (simp [moveL, targetL, ← HG.out, ← HQ.out, ← HX.out, ← HY.out, HNE.out, up_lt t1]; done) | (simp [moveL, targetL, ← HG.out, ← HQ.out, ← HX.out, ← HY.out, HNE.out, up_gt t1]; done)) (by simp) (ext_own (HE1.out.ext HT2.out) (Nat.le_refl _) (((Keep.refl (· = w.heap.size) _).set1 3 _).set1 4 _))
end Go.Proofs.YtioplgfopillnaaDoor

/- The reference of chapter 05: move (kind x). -/
set_option linter.unusedSimpArgs false
set_option linter.unusedVariables false
namespace Go.Proofs.YtioplgfopillnaaDoor
open Go.RowKit

set_option maxHeartbeats 12800000 in
theorem rmove_x (bk : UInt8) (h0 : knownL bk = false) (h4 : ((bk.toNat : Int) == 4) = false) (h5 : ((bk.toNat : Int) == 5) = false) (h6 : ((bk.toNat : Int) == 6) = false) (h7 : ((bk.toNat : Int) == 7) = false) (ak : UInt8) (ap akey ann a0 a1 a2 a3 a4 as_ p key nn v0 v1 v2 v3 v4 s : Value) (ai aj bi bj : Int) (left : Bool) (w : World) (hai : Sm ai) (haj : Sm aj) (hbi : Sm bi) (hbj : Sm bj) :
    Calls Tryd.prog 63 #[cmpV (U8 ak) ap akey ai aj ann a0 a1 a2 a3 a4 as_, cmpV (U8 bk) p key bi bj nn v0 v1 v2 v3 v4 s, .bool left] w (CompIs (U8 ak) ap akey ann a0 a1 a2 a3 a4 as_ w (moveL ai aj bk bi bj left)) := by
  have hA : Blk ((w.alloc (.cells (aC ak ai aj ap akey ann a0 a1 a2 a3 a4 as_) 33)).alloc (.cells (aC bk bi bj p key nn v0 v1 v2 v3 v4 s) 33)) w.heap.size 33 (aC ak ai aj ap akey ann a0 a1 a2 a3 a4 as_) := (Blk.new _ _ _).alloc _
  have HA := hid hA
  have HE1 := hid (show Ext w ((w.alloc (.cells (aC ak ai aj ap akey ann a0 a1 a2 a3 a4 as_) 33)).alloc (.cells (aC bk bi bj p key nn v0 v1 v2 v3 v4 s) 33)) from ((Keep.refl _ _).alloc _).alloc _)
  have HAT := hid (fun w => rat_any bk p key nn v0 v1 v2 v3 v4 s bi bj ai w hai hbi hbj)
  have b1 := bl_bd ai bi
  have b2 := bl_bd bi ai
  have b3 := bl_bd (bi - bl ai bi) aj
  have b4 := bl_bd (ai - bl bi ai) bj
  have L1 := fun w => less_any bi ai w hbi
  have L2 := fun w => less_any ai bi w hai
  have L3 := fun w => less_any aj (bi - bl ai bi) w haj
  have L4 := fun w => less_any bj (ai - bl bi ai) w hbj
  obtain ⟨hai1, hai2⟩ := hai
  obtain ⟨haj1, haj2⟩ := haj
  obtain ⟨hbi1, hbi2⟩ := hbi
  obtain ⟨hbj1, hbj2⟩ := hbj
  obtain ⟨x, hx⟩ : ∃ x, x = aj - bl (bi - bl ai bi) aj := ⟨_, rfl⟩
  obtain ⟨y, hy⟩ : ∃ y, y = bj - bl (ai - bl bi ai) bj := ⟨_, rfl⟩
  obtain ⟨g, hg⟩ : ∃ g, g = bi - bl ai bi := ⟨_, rfl⟩
  obtain ⟨q, hq⟩ : ∃ q, q = ai - bl bi ai := ⟨_, rfl⟩
  rw [← hg] at L1 L3 hx
  rw [← hq] at L2 L4 hy
  rw [← hx] at L3
  rw [← hy] at L4
  have hxb : -1099511627777 ≤ x ∧ x ≤ 1099511627776 := by rw [← hg] at b3; omega
  have hyb : -1099511627777 ≤ y ∧ y ≤ 1099511627776 := by rw [← hq] at b4; omega
  have HL1 := hid L1
  have HL2 := hid L2
  have HL3 := hid L3
  have HL4 := hid L4
  have HX := hid hx
  have HY := hid hy
  have HG := hid hg
  have HQ := hid hq
  clear hA L1 L2 L3 L4 hx hy hg hq b1 b2 b3 b4
  have HK := hid (show bk ≠ 4 ∧ bk ≠ 5 ∧ bk ≠ 6 ∧ bk ≠ 7 from by simp [knownL] at h0; exact ⟨h0.1.1.1, h0.1.1.2, h0.1.2, h0.2⟩)
  go_enter Tryd.func63, Tryd.ntmps63
  go_wp2_with (first
            | (go_at_call 88; refine (HL1.out _).mono ?_; rintro e w' ⟨rfl, rfl⟩)
            | (go_at_call 88; refine (HL2.out _).mono ?_; rintro e w' ⟨rfl, rfl⟩)
            | (go_at_call 88; refine (HL3.out _).mono ?_; rintro e w' ⟨rfl, rfl⟩)
            | (go_at_call 88; refine (HL4.out _).mono ?_; rintro e w' ⟨rfl, rfl⟩)
            | (go_at_call 60; refine (HAT.out _).mono ?_; rintro e w2 ⟨rfl, hT2⟩; have hA2 := HA.out.keep hT2 id; have HT2 := hid hT2;
               have qa0 := hA2.cell 0; have qa1 := hA2.cell 1; have qa2 := hA2.cell 2; have qa3 := hA2.cell 3; have qa4 := hA2.cell 4; have qa5 := hA2.cell 5; have qa6 := hA2.cell 6; have qa7 := hA2.cell 7; have qa8 := hA2.cell 8; have qa9 := hA2.cell 9; have qa10 := hA2.cell 10; have qa11 := hA2.cell 11;
               have f3 := hA2.frozen 3; have f4 := hA2.frozen 4;
               simp at qa0 qa1 qa2 qa3 qa4 qa5 qa6 qa7 qa8 qa9 qa10 qa11; clear hA2 hT2))
  go_ret
  obtain ⟨k4, k5, k6, k7⟩ := HK.out
  refine comp_some _ _ _ _ _ _ _ _ _ _ (by simp [moveL, targetL, k4, k5, k6, k7]; done) (by simp) (ext_own (HE1.out.ext HT2.out) (Nat.le_refl _) (((Keep.refl (· = w.heap.size) _).set1 3 _).set1 4 _))
end Go.Proofs.YtioplgfopillnaaDoor

/- The reference of chapter 05: Turn. -/
set_option linter.unusedSimpArgs false
set_option linter.unusedVariables false
namespace Go.Proofs.YtioplgfopillnaaDoor
open Go.RowKit

theorem rmove_any (ak bk : UInt8) (ap akey ann a0 a1 a2 a3 a4 as_ p key nn v0 v1 v2 v3 v4 s : Value) (ai aj bi bj : Int) (left : Bool) (w : World) (hai : Sm ai) (haj : Sm aj) (hbi : Sm bi) (hbj : Sm bj) :
    Calls Tryd.prog 63 #[cmpV (U8 ak) ap akey ai aj ann a0 a1 a2 a3 a4 as_, cmpV (U8 bk) p key bi bj nn v0 v1 v2 v3 v4 s, .bool left] w (CompIs (U8 ak) ap akey ann a0 a1 a2 a3 a4 as_ w (moveL ai aj bk bi bj left)) := by
  rcases kind_cases bk with rfl | rfl | rfl | rfl | ⟨h0, h4, h5, h6, h7⟩
  · exact rmove_4 _ _ _ _ _ _ _ _ _ _ _ _ _ _ _ _ _ _ _ _ _ _ _ _ _ hai haj hbi hbj
  · exact rmove_5 _ _ _ _ _ _ _ _ _ _ _ _ _ _ _ _ _ _ _ _ _ _ _ _ _ hai haj hbi hbj
  · exact rmove_6 _ _ _ _ _ _ _ _ _ _ _ _ _ _ _ _ _ _ _ _ _ _ _ _ _ hai haj hbi hbj
  · exact rmove_7 _ _ _ _ _ _ _ _ _ _ _ _ _ _ _ _ _ _ _ _ _ _ _ _ _ hai haj hbi hbj
  · exact rmove_x bk h0 h4 h5 h6 h7 _ _ _ _ _ _ _ _ _ _ _ _ _ _ _ _ _ _ _ _ _ _ _ _ _ hai haj hbi hbj

set_option maxHeartbeats 6400000 in
theorem rturn_any (ak bk : UInt8) (ap akey ann a0 a1 a2 a3 a4 as_ p key nn v0 v1 v2 v3 v4 s : Value) (ai aj bi bj : Int) (left : Bool) (w : World) (hai : Sm ai) (haj : Sm aj) (hbi : Sm bi) (hbj : Sm bj) :
    Calls Tryd.prog 34 #[cmpV (U8 ak) ap akey ai aj ann a0 a1 a2 a3 a4 as_, cmpV (U8 bk) p key bi bj nn v0 v1 v2 v3 v4 s, .bool left] w (CompIs (U8 ak) ap akey ann a0 a1 a2 a3 a4 as_ w (turnL ak ai aj bk bi bj left)) := by
  have hA : Blk ((w.alloc (.cells #[U8 ak, ap, akey, .int .i64 ai, .int .i64 aj, ann, a0, a1, a2, a3, a4, as_] 33)).alloc (.cells #[U8 bk, p, key, .int .i64 bi, .int .i64 bj, nn, v0, v1, v2, v3, v4, s] 33)) w.heap.size 33 #[U8 ak, ap, akey, .int .i64 ai, .int .i64 aj, ann, a0, a1, a2, a3, a4, as_] := (Blk.new _ _ _).alloc _
  have hB : Blk ((w.alloc (.cells #[U8 ak, ap, akey, .int .i64 ai, .int .i64 aj, ann, a0, a1, a2, a3, a4, as_] 33)).alloc (.cells #[U8 bk, p, key, .int .i64 bi, .int .i64 bj, nn, v0, v1, v2, v3, v4, s] 33)) (w.heap.size + 1) 33 #[U8 bk, p, key, .int .i64 bi, .int .i64 bj, nn, v0, v1, v2, v3, v4, s] := by
    have := Blk.new (w.alloc (.cells #[U8 ak, ap, akey, .int .i64 ai, .int .i64 aj, ann, a0, a1, a2, a3, a4, as_] 33)) 33 #[U8 bk, p, key, .int .i64 bi, .int .i64 bj, nn, v0, v1, v2, v3, v4, s]
    rwa [World.size_alloc] at this
  have hE1 : Ext w ((w.alloc (.cells #[U8 ak, ap, akey, .int .i64 ai, .int .i64 aj, ann, a0, a1, a2, a3, a4, as_] 33)).alloc (.cells #[U8 bk, p, key, .int .i64 bi, .int .i64 bj, nn, v0, v1, v2, v3, v4, s] 33)) := ((Keep.refl _ _).alloc _).alloc _
  have HA := hid hA
  have HB := hid hB
  have HT := hid hE1
  have HSA := hid hai
  have HSAJ := hid haj
  have HSB := hid hbi
  have HSBJ := hid hbj
  clear hA hB hE1 hai haj hbi hbj
  have htw : (∃ h : ai = bi, bk = 6) ∨ (∃ h : ai = bi, ((bk.toNat : Int) == 6) = false ∧ bk ≠ 6) ∨ ((ai == bi) = false ∧ ai ≠ bi) := by
    by_cases h : ai = bi
    · by_cases h6 : bk = 6
      · exact .inl ⟨h, h6⟩
      · refine .inr (.inl ⟨h, ?_, h6⟩)
        simp only [beq_eq_false_iff_ne, ne_eq]
        intro e
        apply h6
        apply UInt8.toNat.inj
        simp; omega
    · exact .inr (.inr ⟨by simpa using h, h⟩)
  have he2 : (bi == bi) = true := by simp
  have HTW := hid (show (ai = bi ∧ bk = 6) ∨ ¬(ai = bi ∧ bk = 6) from Classical.em _)
  rcases htw with ⟨rfl, rfl⟩ | ⟨rfl, hne6, hn6⟩ | ⟨hne, hnn⟩
  all_goals
    rcases kind_cases ak with rfl | rfl | rfl | rfl | ⟨h0, h4, h5, h6, h7⟩
    all_goals
      go_enter Tryd.func34, Tryd.ntmps34
      go_wp2_with (first
        | (go_at_call 61; refine (rknown_any _ _ _ _ _ _ _ _ _ _ _ _ _).mono ?_; rintro e w1 ⟨rfl, hT⟩; have hA1 := HA.out.keep hT id; have HA1 := hid hA1; have hB1 := HB.out.keep hT id; have HB1 := hid hB1; have qa0 := hA1.cell 0; have qa1 := hA1.cell 1; have qa2 := hA1.cell 2; have qa3 := hA1.cell 3; have qa4 := hA1.cell 4; have qa5 := hA1.cell 5; have qa6 := hA1.cell 6; have qa7 := hA1.cell 7; have qa8 := hA1.cell 8; have qa9 := hA1.cell 9; have qa10 := hA1.cell 10; have qa11 := hA1.cell 11; have qb0 := hB1.cell 0; have qb1 := hB1.cell 1; have qb2 := hB1.cell 2; have qb3 := hB1.cell 3; have qb4 := hB1.cell 4; have qb5 := hB1.cell 5; have qb6 := hB1.cell 6; have qb7 := hB1.cell 7; have qb8 := hB1.cell 8; have qb9 := hB1.cell 9; have qb10 := hB1.cell 10; have qb11 := hB1.cell 11; have f3 := hA1.frozen 3; simp at qa0 qa1 qa2 qa3 qa4 qa5 qa6 qa7 qa8 qa9 qa10 qa11 qb0 qb1 qb2 qb3 qb4 qb5 qb6 qb7 qb8 qb9 qb10 qb11; have HT1 := hid (HT.out.ext hT); clear hT hA1)
        | (go_at_call 61; refine (rknown_any _ _ _ _ _ _ _ _ _ _ _ _ _).mono ?_; rintro e w2 ⟨rfl, hT⟩; have hA2 := HA1.out.keep hT id; have HA2 := hid hA2; have hB2 := HB1.out.keep hT id; have HB2 := hid hB2; have qa0 := hA2.cell 0; have qa1 := hA2.cell 1; have qa2 := hA2.cell 2; have qa3 := hA2.cell 3; have qa4 := hA2.cell 4; have qa5 := hA2.cell 5; have qa6 := hA2.cell 6; have qa7 := hA2.cell 7; have qa8 := hA2.cell 8; have qa9 := hA2.cell 9; have qa10 := hA2.cell 10; have qa11 := hA2.cell 11; have qb0 := hB2.cell 0; have qb1 := hB2.cell 1; have qb2 := hB2.cell 2; have qb3 := hB2.cell 3; have qb4 := hB2.cell 4; have qb5 := hB2.cell 5; have qb6 := hB2.cell 6; have qb7 := hB2.cell 7; have qb8 := hB2.cell 8; have qb9 := hB2.cell 9; have qb10 := hB2.cell 10; have qb11 := hB2.cell 11; have f3 := hA2.frozen 3; simp at qa0 qa1 qa2 qa3 qa4 qa5 qa6 qa7 qa8 qa9 qa10 qa11 qb0 qb1 qb2 qb3 qb4 qb5 qb6 qb7 qb8 qb9 qb10 qb11; have HT2 := hid (HT1.out.ext hT); clear hT hA2)
        | (go_at_call 62; refine (rins_any _ _ _ _ _ _ _ _ _ _ _ _ _ _ _ _ _ _ _ _ _ _ _ _ _ _ HSA.out HSAJ.out HSB.out HSBJ.out).mono ?_; rintro e w3 ⟨v, rfl, hT, hO⟩; have HO := hid (show CompIs _ _ _ _ _ _ _ _ _ _ _ _ _ _ from ⟨v, rfl, hT, hO⟩); clear hT hO)
        | (go_at_call 60; refine (rat_any _ _ _ _ _ _ _ _ _ _ _ _ _ _ HSA.out HSB.out HSBJ.out).mono ?_; rintro e w3 ⟨rfl, hT⟩; have hA3 := HA2.out.keep hT id; have HA3 := hid hA3; have qa0 := hA3.cell 0; have qa1 := hA3.cell 1; have qa2 := hA3.cell 2; have qa3 := hA3.cell 3; have qa4 := hA3.cell 4; have qa5 := hA3.cell 5; have qa6 := hA3.cell 6; have qa7 := hA3.cell 7; have qa8 := hA3.cell 8; have qa9 := hA3.cell 9; have qa10 := hA3.cell 10; have qa11 := hA3.cell 11; have f3 := hA3.frozen 3; simp at qa0 qa1 qa2 qa3 qa4 qa5 qa6 qa7 qa8 qa9 qa10 qa11; have HT3 := hid (HT2.out.ext hT); clear hT hA3)
        | (go_at_call 63; refine (rmove_any _ _ _ _ _ _ _ _ _ _ _ _ _ _ _ _ _ _ _ _ _ _ _ _ _ _ HSA.out HSAJ.out HSB.out HSBJ.out).mono ?_; rintro e w3 ⟨v, rfl, hT, hO⟩; have HO := hid (show CompIs _ _ _ _ _ _ _ _ _ _ _ _ _ _ from ⟨v, rfl, hT, hO⟩); clear hT hO))
    all_goals
      go_ret
      first
        | exact comp_some _ _ _ _ _ _ _ _ _ _ (tL1 h0) rfl HT1.out
        | exact comp_some _ _ _ _ _ _ _ _ _ _ (tL2 (by assumption)) rfl HT2.out
        | exact (HO.out.from_ HT2.out).eq_ (tL3 (by assumption))
        | exact (HO.out.from_ HT2.out).eq_ (tL4 (by assumption))
        | exact comp_some _ _ _ _ _ _ _ _ _ _ tL5 rfl HT2.out
        | exact comp_some _ _ _ _ _ _ _ _ _ _ (tL6 (by assumption)) rfl HT2.out
        | exact comp_none _ _ _ _ _ _ _ _ _ _ (tL7 (by assumption)) HT2.out
        | exact comp_some _ _ _ _ _ _ _ _ _ _ (tL8 (by first | exact .inl rfl | exact .inr rfl) (by first | exact fun h => hn6 h.2 | exact fun h => hnn h.1) (by assumption) (by assumption)) (by simp) (ext_own HT3.out (Nat.le_refl _) ((Keep.refl (· = w.heap.size) _).set1 3 _))
        | exact comp_none _ _ _ _ _ _ _ _ _ _ (tL9 (by first | exact .inl rfl | exact .inr rfl) (by first | exact fun h => hn6 h.2 | exact fun h => hnn h.1) (by assumption) (by assumption)) HT3.out
end Go.Proofs.YtioplgfopillnaaDoor

/-
  DERIVED: THE SHELF's CONTRACTS AT THIS DUMP, IN PLAIN WORDS (tools/lay-plain.mjs out of 'YtioplgfopillnaaDoorLayDRRaw.lean', which tools/lay-shelf.mjs wrote): THE SAME DECLARATIONS UNDER THE SAME NAMES: 'import', 'namespace', 'open', 'def', 'theorem' AND NOTHING ELSE: no command of the shelf's: FOR A HAND-IN. Each laying: the table of numbers ('.._ren') and one theorem, a field a fact of the dump's own or the kernel's comparison; each contract: ONE APPLICATION.
-/
namespace Go.Proofs
open Go.Shelf
def Tryd.laysDR_ren : Go.Shelf.Ren := ⟨fun | 197 => 96 | 260 => 103 | n => n, fun | 9 => 9 | 21 => 21 | 3 => 3 | 4 => 4 | 5 => 5 | 105 => 111 | 119 => 120 | 0 => 0 | 46 => 124 | 139 => 123 | 138 => 122 | n => n, fun | 3 => 0 | 4 => 1 | n => n⟩
theorem Tryd.laysDR : Go.Proofs.Lays.n197 Tryd.prog Tryd.laysDR_ren := {
  mixed := by kernel_rfl
  f197 := Tryd.func96.trans (congrArg some (by kernel_rfl))
  f260 := Tryd.func103.trans (congrArg some (by kernel_rfl))
  t0 := Tryd.underlying0
  a0 := Tryd.isAgg0
  z0 := Tryd.sizeOf0
  v0 := Tryd.zeroValue0
  t3 := Tryd.underlying3
  a3 := Tryd.isAgg3
  z3 := Tryd.sizeOf3
  v3 := Tryd.zeroValue3
  t4 := Tryd.underlying4
  a4 := Tryd.isAgg4
  z4 := Tryd.sizeOf4
  v4 := Tryd.zeroValue4
  t5 := Tryd.underlying5
  a5 := Tryd.isAgg5
  z5 := Tryd.sizeOf5
  v5 := Tryd.zeroValue5
  t9 := Tryd.underlying9
  a9 := Tryd.isAgg9
  z9 := Tryd.sizeOf9
  v9 := Tryd.zeroValue9
  t21 := Tryd.underlying21
  a21 := Tryd.isAgg21
  z21 := Tryd.sizeOf21
  v21 := Tryd.zeroValue21
  t46 := Tryd.underlying124
  a46 := Tryd.isAgg124
  z46 := Tryd.sizeOf124
  v46 := Tryd.zeroValue124
  t105 := Tryd.underlying111
  a105 := Tryd.isAgg111
  z105 := Tryd.sizeOf111
  v105 := Tryd.zeroValue111
  t119 := Tryd.underlying120
  a119 := Tryd.isAgg120
  z119 := Tryd.sizeOf120
  t138 := Tryd.underlying122
  a138 := Tryd.isAgg122
  z138 := Tryd.sizeOf122
  v138 := Tryd.zeroValue122
  t139 := Tryd.underlying123
  a139 := Tryd.isAgg123
  z139 := Tryd.sizeOf123
  v139 := Tryd.zeroValue123
  g3 := by kernel_rfl
  g4 := by kernel_rfl }
end Go.Proofs
