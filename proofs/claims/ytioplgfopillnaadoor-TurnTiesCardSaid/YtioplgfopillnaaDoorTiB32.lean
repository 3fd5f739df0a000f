/- TurnR, AppFull, TiesC: laid together. -/
import Derived.Test.YtioplgfopillnaaDoorTiB31
import Derived.Test.YtioplgfopillnaaDoorTiB1
import Derived.Test.YtioplgfopillnaaDoorTiB28
import Derived.Test.YtioplgfopillnaaDoorTiB12
/- turn.Turn by contract, in all cases: new memory that holds what is left of a component behind another one. -/
set_option linter.unusedSimpArgs false
set_option linter.unusedVariables false
namespace Go.Proofs.YtioplgfopillnaaDoor
open Go.RowKit
set_option linter.unusedVariables false

/-- New memory that holds these components. -/
def TList (w : World) (l : List Cp) (e : Ending) (w' : World) : Prop := ∃ v, e = .returned v ∧ Sl ECp w' (fun k => k < w'.heap.size) v l ∧ Ext w w'
/-- What is left of x behind y. -/
def turnC (b : Bool) (x y : Cp) (left : Bool) : List Cp :=
  if b = true then
    match x.path[y.path.length]? with
    | some s => if (thrL s y).2 = true then [{ x with path := x.path.set y.path.length { s with i := (thrL s y).1 } }] else []
    | none => besL x y left
  else [x]
theorem tone_list {w : World} {x : Cp} {e : Ending} {w' : World} (h : TurnOne w x e w') : TList w [x] e w' := by
  obtain ⟨g, pv, lv, ov, rfl, hb, h1, h2, h3, hE⟩ := h
  refine ⟨_, rfl, (show Sl ECp w' (fun _ => True) _ [x] from ⟨cpL x pv lv ov, ⟨rfl, _, 1, rfl, Nat.le_refl _, by simp [maxLen], fun _ => ⟨g, 0, rfl, trivial, hb.lt, fun j u hu => ?_⟩⟩, Cells.single ⟨pv, lv, ov, rfl, h1.more ESt.ok fun _ _ _ => trivial, h2.more EVal.ok fun _ _ _ => trivial, h3.more EField.ok fun _ _ _ => trivial⟩⟩).lt_, hE⟩
  rw [Nat.zero_add, hb.cell]
  simpa using hu
theorem bel_list {w : World} {x y : Cp} {k : Nat} {s : St} {e : Ending} {w' : World} (h : BelIs w x y k s e w') : TList w (if (thrL s y).2 = true then [{ x with path := x.path.set k { s with i := (thrL s y).1 } }] else []) e w' := by
  unfold BelIs at h
  generalize thrL s y = r at *
  obtain ⟨r1, r2⟩ := r
  cases r2 with
  | false =>
    rw [if_neg (by simp)]
    rcases h with ⟨h1, h2, h3⟩ | ⟨h1, h2⟩
    · exact ⟨_, h2, Sl.nil _ _, h3⟩
    · cases h1
  | true =>
    rw [if_pos rfl]
    rcases h with ⟨h1, h2, h3⟩ | ⟨h1, h2⟩
    · cases h1
    · exact tone_list h2
theorem splitL_len (ai an bi rb : Int) : (splitL ai an bi rb).length ≤ 2 := by unfold splitL; (repeat' split) <;> simp
theorem tturn_len (ak : UInt8) (ai an : Int) (bk : UInt8) (bi bn rb : Int) (left : Bool) : (tturn ak ai an bk bi bn rb left).length ≤ 2 := by
  have := splitL_len ai an bi rb
  unfold tturn; (repeat' split) <;> simp <;> omega
theorem besL_len (x y : Cp) (left : Bool) : (besL x y left).length ≤ 1000 := by
  have h := tturn_len x.kind x.i x.n y.kind y.i y.n (Lib.runeCount y.s : Nat) left
  unfold besL
  repeat' split
  · simp
  · cases turnL x.kind x.i x.j y.kind y.i y.j left <;> simp
  · rw [List.length_map]; omega
  · simp
  · simp
theorem besL_fit {x y : Cp} {left : Bool} (hf : Fit x) : ∀ c ∈ besL x y left, Fit c := by
  intro c
  unfold besL
  repeat' split
  · intro h; rw [List.mem_singleton.1 h]; exact hf
  · intro h
    obtain ⟨q, _, rfl⟩ := List.mem_map.1 h
    exact hf
  · intro h
    obtain ⟨q, _, rfl⟩ := List.mem_map.1 h
    exact hf
  · intro h; cases h
  · intro h; rw [List.mem_singleton.1 h]; exact hf
set_option maxRecDepth 20000 in
set_option maxHeartbeats 3200000 in
theorem turn_same (w : World) (S S2 : BS) (u t : Value) (x y : Cp) (left : Bool) (hx : CAt w S u x) (hy : CAt w S2 t y) (hf : Fit x) (bx : Bd x) (by_ : Bd y) (hn : y.path <+: x.path) (hk : ¬ y.path.length < x.path.length) :
    Calls Tryd.prog 13 #[u, t, .bool left] w (TList w (besL x y left)) := by
  obtain ⟨hp, hv⟩ := hf
  obtain ⟨pv, lv, ov, rfl, h1, h2, h3⟩ := hx.cut
  obtain ⟨Ap, cp, rfl, _⟩ := h1.shape
  obtain ⟨Al, cl, rfl, _⟩ := h2.shape
  obtain ⟨Ao, co, rfl, _⟩ := h3.shape
  obtain ⟨qv, mv, nv, rfl, k1, k2, k3⟩ := hy.cut
  obtain ⟨Bp, dp, rfl, _⟩ := k1.shape
  obtain ⟨Bl, dl, rfl, _⟩ := k2.shape
  obtain ⟨Bo, do_, rfl, _⟩ := k3.shape
  obtain ⟨W, hW⟩ : ∃ W, (w.alloc (.cells (cpCells x (.slice Ap x.path.length cp) (.slice Al x.v.l.length cl) (.slice Ao x.v.o.length co)) TCMP)).alloc (.cells (cpCells y (.slice Bp y.path.length dp) (.slice Bl y.v.l.length dl) (.slice Bo y.v.o.length do_)) TCMP) = W := ⟨_, rfl⟩
  have hE : Ext w W := by rw [← hW]; exact ((Keep.refl _ _).alloc _).alloc _
  have hsz : W.heap.size = w.heap.size + 2 := by rw [← hW]; simp
  have hb : Blk W w.heap.size TCMP (cpCells x (.slice Ap x.path.length cp) (.slice Al x.v.l.length cl) (.slice Ao x.v.o.length co)) := by rw [← hW]; exact (Blk.new _ _ _).alloc _
  have hc : Blk W (w.heap.size + 1) TCMP (cpCells y (.slice Bp y.path.length dp) (.slice Bl y.v.l.length dl) (.slice Bo y.v.o.length do_)) := by
    have := Blk.new (w.alloc (.cells (cpCells x (.slice Ap x.path.length cp) (.slice Al x.v.l.length cl) (.slice Ao x.v.o.length co)) TCMP)) TCMP (cpCells y (.slice Bp y.path.length dp) (.slice Bl y.v.l.length dl) (.slice Bo y.v.o.length do_))
    rw [World.size_alloc, hW] at this
    exact this
  have HX := hid (show CAt W (fun k => k < w.heap.size) (.agg (cpCells x (.slice Ap x.path.length cp) (.slice Al x.v.l.length cl) (.slice Ao x.v.o.length co))) x from (CAt.ext ⟨_, _, _, rfl, h1, h2, h3⟩ hE).more fun k _ h => h.2)
  have HY := hid (show CAt W (fun k => k < w.heap.size) (.agg (cpCells y (.slice Bp y.path.length dp) (.slice Bl y.v.l.length dl) (.slice Bo y.v.o.length do_))) y from (CAt.ext ⟨_, _, _, rfl, k1, k2, k3⟩ hE).more fun k _ h => h.2)
  have HQ := hid ((k1.more (S' := fun k => k < w.heap.size) ESt.ok fun k _ h => h.2).ext ESt.ok hE)
  have HB := hid hb
  have HC := hid hc
  have HE := hid hE
  have HN := hid hn
  have a0 := hb.cell 0
  have a1 := hb.cell 1
  have a2 := hb.cell 2
  have a3 := hb.cell 3
  have a4 := hb.cell 4
  have a5 := hb.cell 5
  have a6 := hb.cell 6
  have a7 := hb.cell 7
  have a8 := hb.cell 8
  have a9 := hb.cell 9
  have a10 := hb.cell 10
  have a11 := hb.cell 11
  simp at a0 a1 a2 a3 a4 a5 a6 a7 a8 a9 a10 a11
  have HK := hid hk
  have BX := hid bx
  have BY := hid by_
  clear h1 h2 h3 k1 k2 k3 hk hE hb hc hx hy hn bx by_
  go_enter Tryd.func13, Tryd.ntmps13
  go_wp2_with fail
  refine (comp_copy W _ _ x HX.out hp hv).mono ?_
  rintro e X1 ⟨u', rfl, hu', hE1⟩
  obtain ⟨pv2, lv2, ov2, rfl, g1, g2, g3⟩ := hu'
  obtain ⟨Ap2, cp2, rfl, _⟩ := g1.shape
  obtain ⟨Al2, cl2, rfl, _⟩ := g2.shape
  obtain ⟨Ao2, co2, rfl, _⟩ := g3.shape
  have hs1 := hE1.size
  have hb := HB.out.keep hE1 id
  obtain ⟨X2, hX2⟩ : ∃ X2, ((((((((((((X1.setCell ⟨w.heap.size, 0, none⟩ (.int .u8 (x.kind.toNat : Int))).setCell ⟨w.heap.size, 1, none⟩ (.slice Ap2 x.path.length cp2)).setCell ⟨w.heap.size, 2, none⟩ (.string x.key)).setCell ⟨w.heap.size, 3, none⟩ (.int .i64 x.i)).setCell ⟨w.heap.size, 4, none⟩ (.int .i64 x.j)).setCell ⟨w.heap.size, 5, none⟩ (.int .i64 x.n)).setCell ⟨w.heap.size, 6, none⟩ (.int .u8 (x.v.kind.toNat : Int))).setCell ⟨w.heap.size, 7, none⟩ (.int .i64 x.v.n)).setCell ⟨w.heap.size, 8, none⟩ (.string x.v.s)).setCell ⟨w.heap.size, 9, none⟩ (.slice Al2 x.v.l.length cl2)).setCell ⟨w.heap.size, 10, none⟩ (.slice Ao2 x.v.o.length co2)).setCell ⟨w.heap.size, 11, none⟩ (.string x.s)) = X2 := ⟨_, rfl⟩
  have hk : Keep (· = w.heap.size) X1 X2 := by rw [← hX2]; exact (((((((((((((Keep.refl (· = w.heap.size) X1).set1 0 _).set1 1 _).set1 2 _).set1 3 _).set1 4 _).set1 5 _).set1 6 _).set1 7 _).set1 8 _).set1 9 _).set1 10 _).set1 11 _)
  have hb2 : Blk X2 w.heap.size TCMP (cpCells x (.slice Ap2 x.path.length cp2) (.slice Al2 x.v.l.length cl2) (.slice Ao2 x.v.o.length co2)) := by rw [← hX2]; exact set12f hb rfl (.int .u8 (x.kind.toNat : Int)) (.slice Ap2 x.path.length cp2) (.string x.key) (.int .i64 x.i) (.int .i64 x.j) (.int .i64 x.n) (.int .u8 (x.v.kind.toNat : Int)) (.int .i64 x.v.n) (.string x.v.s) (.slice Al2 x.v.l.length cl2) (.slice Ao2 x.v.o.length co2) (.string x.s)
  have HG1 := hid (g1.keep ESt.ok hk fun k h e => by omega)
  have HG2 := hid (g2.keep EVal.ok hk fun k h e => by omega)
  have HG3 := hid (g3.keep EField.ok hk fun k h e => by omega)
  have HB2 := hid hb2
  have HC2 := hid ((HC.out.keep hE1 id).keep hk (by omega))
  have HQ2 := hid ((HQ.out.ext ESt.ok hE1).keep ESt.ok hk fun k h e => by omega)
  have HY2 := hid ((HY.out.ext hE1).keep hk fun k h e => by omega)
  have HE2 := hid ((HE.out.ext hE1).trans hk fun k hk e => by omega)
  have HX2 := hid hX2
  have b0 := hb.cell 0
  have f0 := hb.frozen 0
  have b1 := hb.cell 1
  have f1 := hb.frozen 1
  have b2 := hb.cell 2
  have f2 := hb.frozen 2
  have b3 := hb.cell 3
  have f3 := hb.frozen 3
  have b4 := hb.cell 4
  have f4 := hb.frozen 4
  have b5 := hb.cell 5
  have f5 := hb.frozen 5
  have b6 := hb.cell 6
  have f6 := hb.frozen 6
  have b7 := hb.cell 7
  have f7 := hb.frozen 7
  have b8 := hb.cell 8
  have f8 := hb.frozen 8
  have b9 := hb.cell 9
  have f9 := hb.frozen 9
  have b10 := hb.cell 10
  have f10 := hb.frozen 10
  have b11 := hb.cell 11
  have f11 := hb.frozen 11
  simp at b0 b1 b2 b3 b4 b5 b6 b7 b8 b9 b10 b11
  have y1 := (HC.out.keep hE1 id).cell 1
  simp at y1
  clear hX2 hk hb2 hb g1 g2 g3 hE1 HB HC HQ HX HY a0 a1 a2 a3 a4 a5 a6 a7 a8 a9 a10 a11
  go_wp2_with fail
  rw [HX2.out]
  clear y1 b0 b1 b2 b3 b4 b5 b6 b7 b8 b9 b10 b11 f0 f1 f2 f3 f4 f5 f6 f7 f8 f9 f10 f11
  refine (begins_ok X2 _ _ _ _ _ _ HG1.out HQ2.out).mono ?_
  intro e X3 hbeg
  obtain ⟨rfl, hE3⟩ := hbeg.yes HN.out
  have HB3 := hid (HB2.out.keep hE3 id)
  have HCA := hid (show CAt X3 (fun k => k < X3.heap.size) (.agg (cpCells x (.slice Ap2 x.path.length cp2) (.slice Al2 x.v.l.length cl2) (.slice Ao2 x.v.o.length co2))) x from (CAt.cut ⟨_, _, _, rfl, HG1.out.ext ESt.ok hE3, HG2.out.ext EVal.ok hE3, HG3.out.ext EField.ok hE3⟩).more fun k _ h => h.2)
  have HY3 := hid (HY2.out.ext hE3)
  have HE3 := hid (HE2.out.ext hE3)
  have HC3 := hid (HC2.out.keep hE3 id)
  clear hbeg hE3 HB2 HG1 HG2 HG3 HQ2 HE2 HX2 HY2 HC2
  have b0 := HB3.out.cell 0
  have b1 := HB3.out.cell 1
  have b2 := HB3.out.cell 2
  have b3 := HB3.out.cell 3
  have b4 := HB3.out.cell 4
  have b5 := HB3.out.cell 5
  have b6 := HB3.out.cell 6
  have b7 := HB3.out.cell 7
  have b8 := HB3.out.cell 8
  have b9 := HB3.out.cell 9
  have b10 := HB3.out.cell 10
  have b11 := HB3.out.cell 11
  simp at b0 b1 b2 b3 b4 b5 b6 b7 b8 b9 b10 b11
  have hklX : ¬ ((y.path.length : Int) < x.path.length) := by have := HK.out; omega
  have z0 := HC3.out.cell 0
  have z1 := HC3.out.cell 1
  have z2 := HC3.out.cell 2
  have z3 := HC3.out.cell 3
  have z4 := HC3.out.cell 4
  have z5 := HC3.out.cell 5
  have z6 := HC3.out.cell 6
  have z7 := HC3.out.cell 7
  have z8 := HC3.out.cell 8
  have z9 := HC3.out.cell 9
  have z10 := HC3.out.cell 10
  have z11 := HC3.out.cell 11
  simp at z0 z1 z2 z3 z4 z5 z6 z7 z8 z9 z10 z11
  go_wp2_with fail
  refine (beside_ok X3 _ _ _ _ x y left HCA.out HY3.out BX.out BY.out).mono ?_
  rintro e X4 ⟨v, rfl, ho, hE4⟩
  have HO := hid ho
  have HE4 := hid (HE3.out.ext hE4)
  have HS3 := hid HE3.out.size
  clear hE4 ho b0 b1 b2 b3 b4 b5 b6 b7 b8 b9 b10 b11 z0 z1 z2 z3 z4 z5 z6 z7 z8 z9 z10 z11
  go_wp2_with fail
  refine (own_list X4 _ _ v _ HO.out (fun g e h => by have := (HO.out.lt e).1; omega) (besL_len _ _ _) (besL_fit ⟨hp, hv⟩)).mono ?_
  rintro e X5 ⟨rfl, hs5, hk5⟩
  have hOl := HO.out
  obtain ⟨A5, c5, rfl, _⟩ := hOl.shape
  have HS5 := hid hs5
  have HK5 := hid hk5
  have HOL := hid hOl
  clear hs5 hk5 hOl
  go_wp2
  go_ret
  exact ⟨_, rfl, HS5.out, HE4.out.trans HK5.out fun k hk e => by have := (HOL.out.lt e).1; have := HS3.out; omega⟩
theorem turn_list (w : World) (S S2 : BS) (u t : Value) (x y : Cp) (left : Bool) (hx : CAt w S u x) (hy : CAt w S2 t y) (hf : Fit x) (bx : Bd x) (by_ : Bd y) (b : Bool) (hb : b = true ↔ y.path <+: x.path) :
    Calls Tryd.prog 13 #[u, t, .bool left] w (TList w (turnC b x y left)) := by
  unfold turnC
  by_cases hbt : b = true
  · have hn := hb.1 hbt
    rw [if_pos hbt]
    by_cases hk : y.path.length < x.path.length
    · have hs : x.path[y.path.length]? = some x.path[y.path.length] := List.getElem?_eq_getElem hk
      rw [hs]
      have h := turn_below w S S2 u t x y _ _ left hx hy hf.1 hf.2 hn hk rfl hs (bx.p _ (List.getElem_mem hk)) by_.i by_.j
      exact h.mono fun e w' h => bel_list h
    · rw [List.getElem?_eq_none (by omega)]
      exact turn_same w S S2 u t x y left hx hy hf bx by_ hn hk
  · have hn : ¬ y.path <+: x.path := fun h => hbt (hb.2 h)
    rw [if_neg hbt]
    exact (turn_apart w S S2 u t x y left hx hy hf.1 hf.2 hn).mono fun e w' h => tone_list h
end Go.Proofs.YtioplgfopillnaaDoor

/- 'append' to a slice that is full: new memory, or nothing; what was there stays. No program. -/
set_option linter.unusedSimpArgs false
set_option linter.unusedVariables false
namespace Go.Proofs.YtioplgfopillnaaDoor
open Go.RowKit
set_option linter.unusedVariables false

theorem exec_append {P : Program} {ρ : Operand → Value} {o : Oper} {s x : Operand} {t : TypeId} {v y v' : Value} {w w' : World} (ho : o.op = .call { callee := .builtin .append, args := #[s, x], argTypes := #[t, t] }) (hs : ρ s = v) (hx : ρ x = y)
    (hrun : (Builtin.append_ #[t, t] o.type #[v, y]).run P w = .ok v' w') : (execOp ρ o).run P w = .ok (.value v') w' := by
  unfold execOp
  simp only [ho, resolve, invoke, builtin, Sem.run_bind, Sem.run_pure, Result.andThen_ok, List.map_toArray, List.map_cons, List.map_nil, hs, hx, hrun]

section
variable {P : Program} {α : Type} {E : El α} {w : World} {S S2 : BS} {t T : TypeId} {y : Value} {xs ys : List α} {bytes : Nat}
theorem app_ext (hE : E.Ok) (ht : TyInfo P t T E.size bytes) (ty : TypeId) {ad : Addr} (hv : Sl E w S (.slice (some ad) xs.length xs.length) xs) (hx0 : 0 < xs.length) (hy : Sl E w S2 y ys)
    (h63 : xs.length + ys.length ≤ maxLen) (hbytes : (xs.length + ys.length) * bytes ≤ 140737488355328) :
    ∃ v' w', (Builtin.append_ #[t, t] ty #[.slice (some ad) xs.length xs.length, y]).run P w = .ok v' w' ∧ Sl E w' (fun _ => True) v' (xs ++ ys) ∧ Ext w w' := by
  obtain ⟨i, z, hi, hz, hsize, hby, hzs⟩ := ht.info
  obtain ⟨cs, ⟨hl, A, c, e, _, _, hcell⟩, hcs⟩ := hv
  obtain ⟨ds, ⟨hl2, A2, c2, rfl, _, _, hcell2⟩, hds⟩ := hy
  injection e with e1 _ _
  subst e1
  obtain ⟨b, off, e, hS, hlt, hc⟩ := hcell hx0
  injection e with e
  subst e
  rcases Nat.eq_zero_or_pos ys.length with h0 | h0
  · have hys : ys = [] := List.eq_nil_of_length_eq_zero h0
    subst hys
    have hdn : ds = [] := hds
    subst hdn
    refine ⟨.slice (some ⟨b, off, none⟩) xs.length xs.length, w, ?_, ?_, Keep.refl _ _⟩
    · cases A2 <;> simp [Builtin.append_, run_underlying ht.under, sizeOf, typeInfo, hi, Builtin.lenOf, Builtin.firstCells, storeCells, loadCells, loadCellsFrom]
    · rw [List.append_nil]
      exact ⟨cs, ⟨hl, _, _, rfl, Nat.le_refl _, by simpa using h63, fun _ => ⟨b, off, rfl, trivial, hlt, hc⟩⟩, hcs.more hE fun _ _ _ => trivial⟩
  · obtain ⟨b2, off2, rfl, _, hlt2, hc2⟩ := hcell2 h0
    have hadd : ∀ (b off k : Nat), (⟨b, off, none⟩ : Addr).add k = ⟨b, off + k, none⟩ := fun b off k => by
      unfold Addr.add; split
      · rename_i h; rw [h]; rfl
      · rfl
    have hr := run_append_grow (P := P) w t ty T i z ht.under hi hz ⟨b, off, none⟩ xs.length xs.length cs (by rw [hl, hsize]) (fun j u hu => by rw [hadd]; exact hc j u hu) ⟨b2, off2, none⟩ ys.length c2 ds (by rw [hl2, hsize]) (fun j u hu => by rw [hadd]; exact hc2 j u hu)
      (by omega) (by unfold maxLen at h63; omega) (growslice_fits (by omega) (by rw [hby]; exact hbytes))
    have hge := grownCap_ge w (xs.length + ys.length) xs.length T
    have hcm := grownCap_le_maxLen w (xs.length + ys.length) xs.length T h63
    have hE2 : Ext w (w.drew.alloc (.cells (cs.toArray ++ ds.toArray ++ Builtin.zeroCells z.cells (grownCap w (xs.length + ys.length) xs.length T - (xs.length + ys.length))) T)) := (Keep.drew (Keep.refl _ _)).alloc _
    refine ⟨_, _, hr, ⟨cs ++ ds, ⟨by rw [List.length_append, hl, hl2, List.length_append, Nat.add_mul], _, _, by rw [List.length_append], by rw [List.length_append]; exact hge, hcm, fun _ => ⟨w.heap.size, 0, rfl, trivial, by simp, fun j u hu => ?_⟩⟩, ((hcs.keep hE hE2 fun _ _ h => h).more hE fun _ _ _ => trivial).append ((hds.keep hE hE2 fun _ _ h => h).more hE fun _ _ _ => trivial)⟩, hE2⟩
    rw [Nat.zero_add]
    have hb := (Blk.new w.drew T (cs.toArray ++ ds.toArray ++ Builtin.zeroCells z.cells (grownCap w (xs.length + ys.length) xs.length T - (xs.length + ys.length)))).cell j
    have hj := (List.getElem?_eq_some_iff.1 hu).1
    rw [Array.getElem?_append_left (by simp; simpa using hj)] at hb
    refine (show _ = _ from hb).trans ?_
    simpa using hu
end
end Go.Proofs.YtioplgfopillnaaDoor

/- What is put at one key twice, or taken away and put: all is done, and comes to one value. No walk. -/
set_option linter.unusedSimpArgs false
set_option linter.unusedVariables false
namespace Go.Proofs.YtioplgfopillnaaDoor
open Go.RowKit
set_option linter.unusedVariables false

def putC (K : ByteArray) (x : V) : Cp := ⟨2, [], K, 0, 0, 0, x, ⟨#[]⟩⟩
def delC (K : ByteArray) : Cp := ⟨3, [], K, 0, 0, 0, .mk 0 0 ⟨#[]⟩ [] [], ⟨#[]⟩⟩
theorem withO_size (x : V) (o : List F) : (withO x o).size = 1 + V.sizes x.l + F.sizes o := by rw [V.size_eq]; rfl
theorem does_put {w0 : World} (hva : ValAny w0) {v x : V} {K : ByteArray} (hK : Asc K) (hx : SVd 0 x) (hxz : x.size ≤ 241) (hk : v.kind = 5) (hz : v.size ≤ 10000) : Does w0 v (putC K x) (withO v (fldR (.mk K x) false v.o)) := by
  have h1 := F.sizes_len v.o
  have h2 := V.size_eq v
  have h3 := fldR_sizes (.mk K x) false v.o
  rw [F.size] at h3
  have h4 := withO_size v (fldR (.mk K x) false v.o)
  exact fun w S S2 u t hw hv hc => rdo6_put w0 hva w hw S S2 u t v v _ (putC K x) hv hc (snd6_put hK hx hxz) rfl (by omega) (by omega) (.inl rfl) hk rfl (by show (withO v (fldR (.mk K x) false v.o)).size ≤ 1000000; omega)
theorem does_del {w0 : World} (hva : ValAny w0) {v : V} {K : ByteArray} (hK : Asc K) (hf : fieldIs v.o K = true) (hk : v.kind = 5) (hz : v.size ≤ 10000) : Does w0 v (delC K) (withO v (fldR (.mk K (.mk 0 0 ⟨#[]⟩ [] [])) true v.o)) := by
  have h1 := F.sizes_len v.o
  have h2 := V.size_eq v
  have h3 := fldR_sizes (.mk K (.mk 0 0 ⟨#[]⟩ [] [])) true v.o
  rw [F.size, flat_size] at h3
  have h4 := withO_size v (fldR (.mk K (.mk 0 0 ⟨#[]⟩ [] [])) true v.o)
  exact fun w S S2 u t hw hv hc => rdo6_put w0 hva w hw S S2 u t v v _ (delC K) hv hc (snd6_del hK) rfl (by omega) (by omega) (.inr ⟨rfl, hf⟩) hk rfl (by show (withO v (fldR (.mk K (.mk 0 0 ⟨#[]⟩ [] [])) true v.o)).size ≤ 1000000; omega)
/-- All of what TurnTies does to the object v. -/
structure Tie (w0 : World) (v z : V) (K : ByteArray) (X Y D : Cp) : Prop where
  size : z.size ≤ 10000
  one : Does w0 v X z
  yx : DoesL w0 v ([Y] ++ [X]) z
  x : DoesL w0 v ([X] ++ []) z
  dx : DoesL w0 v ([D] ++ [X]) z
  t1 : turnC true X Y true = [X]
  t2 : turnC true D X true = []
  t3 : turnC true X D false = [X]
  px : X.path = []
  py : Y.path = []
  pd : D.path = []
  fx : Fit X
  fd : Fit D
  bx : Bd X
  by_ : Bd Y
  bd : Bd D
theorem bd_put (K : ByteArray) (x : V) : Bd (putC K x) := ⟨by show Sm 0; unfold Sm; omega, by show Sm 0; unfold Sm; omega, fun h => absurd (show famN 2 = 3 from h) (by decide), by show (⟨#[]⟩ : ByteArray).size ≤ 100000; decide, fun s hs => by cases hs⟩
theorem bd_del (K : ByteArray) : Bd (delC K) := ⟨by show Sm 0; unfold Sm; omega, by show Sm 0; unfold Sm; omega, fun h => absurd (show famN 3 = 3 from h) (by decide), by show (⟨#[]⟩ : ByteArray).size ≤ 100000; decide, fun s hs => by cases hs⟩
theorem tie_ok {w0 : World} (hva : ValAny w0) {v x y : V} {K : ByteArray} (hK : Asc K) (hx : SVd 0 x) (hxz : x.size ≤ 241) (hy : SVd 0 y) (hyz : y.size ≤ 241) (hk : v.kind = 5) (hz : v.size ≤ 1000) (hf : fieldIs v.o K = true) (hr : Rise v.o) :
    Tie w0 v (withO v (fldR (.mk K x) false v.o)) K (putC K x) (putC K y) (delC K) := by
  have h2 := V.size_eq v
  have h3 := fldR_sizes (.mk K x) false v.o
  rw [F.size] at h3
  have h4 := withO_size v (fldR (.mk K x) false v.o)
  have h5 := fldR_sizes (.mk K y) false v.o
  rw [F.size] at h5
  have h6 := withO_size v (fldR (.mk K y) false v.o)
  have h7 := fldR_sizes (.mk K (.mk 0 0 ⟨#[]⟩ [] [])) true v.o
  rw [F.size, flat_size] at h7
  have h8 := withO_size v (fldR (.mk K (.mk 0 0 ⟨#[]⟩ [] [])) true v.o)
  have one := does_put hva hK hx hxz hk (v := v) (by omega)
  have a2 := does_put hva hK hx hxz (v := withO v (fldR (.mk K y) false v.o)) hk (by omega)
  have a3 := does_put hva hK hx hxz (v := withO v (fldR (.mk K (.mk 0 0 ⟨#[]⟩ [] [])) true v.o)) hk (by omega)
  have e2 : withO (withO v (fldR (.mk K y) false v.o)) (fldR (.mk K x) false (withO v (fldR (.mk K y) false v.o)).o) = withO v (fldR (.mk K x) false v.o) := by
    show withO v (fldR (.mk K x) false (fldR (.mk K y) false v.o)) = _
    rw [fldR_two (.mk K x) (.mk K y) rfl]
  have e3 : withO (withO v (fldR (.mk K (.mk 0 0 ⟨#[]⟩ [] [])) true v.o)) (fldR (.mk K x) false (withO v (fldR (.mk K (.mk 0 0 ⟨#[]⟩ [] [])) true v.o)).o) = withO v (fldR (.mk K x) false v.o) := by
    show withO v (fldR (.mk K x) false (fldR (.mk K (.mk 0 0 ⟨#[]⟩ [] [])) true v.o)) = _
    rw [fldR_del (.mk K x) (.mk K (.mk 0 0 ⟨#[]⟩ [] [])) rfl v.o hr]
  rw [e2] at a2
  rw [e3] at a3
  have hs : x.size ≤ 1000000 := by omega
  refine ⟨by omega, one, .cons (does_put hva hK hy hyz hk (by omega)) (.cons a2 (.nil _)), .cons one (.nil _), .cons (does_del hva hK hf hk (by omega)) (.cons a3 (.nil _)), ?_, ?_, ?_, rfl, rfl, rfl, ?_, ?_, bd_put _ _, bd_put _ _, bd_del _⟩
  · simp [turnC, besL, putC, famN]
  · simp [turnC, besL, putC, delC, famN]
  · simp [turnC, besL, putC, delC, famN]
  · exact ⟨Nat.zero_le _, hs⟩
  · exact ⟨Nat.zero_le _, by show (V.mk 0 0 ⟨#[]⟩ [] []).size ≤ 1000000; rw [flat_size]; decide⟩
/-- What done hands back, in a region that draws. -/
def OutD (K : Nat) (y : V) (n m : Nat) (v : Value) (w : World) : Prop := K ≤ n ∧ ∃ A c A' c', v = .tuple #[.agg #[U8 y.kind, .int .i64 y.n, .string y.s, .slice A y.l.length c, .slice A' y.o.length c'], .bool true] ∧ VAt w (fun q => q < K ∨ (n ≤ q ∧ q < m)) (.agg #[U8 y.kind, .int .i64 y.n, .string y.s, .slice A y.l.length c, .slice A' y.o.length c']) y
theorem OutD.ext {k : Nat} {y : V} {n m : Nat} {v : Value} {w w' : World} (h : OutD k y n m v w) (he : Ext w w') : OutD k y n m v w' := by
  obtain ⟨h0, A, c, A', c', e, h⟩ := h
  exact ⟨h0, A, c, A', c', e, h.ext he⟩
theorem DoneIs.out {w w' : World} {K : Nat} {S : BS} {z : V} {e : Ending} (h : DoneIs w S z e w') (hK : K ≤ w.heap.size) (hS : ∀ q, S q → q < K) : ∃ u, e = .returned u ∧ Ext w w' ∧ OutD K z w.heap.size w'.heap.size u w' := by
  obtain ⟨A, a, B, b, rfl, h1, hE⟩ := h
  refine ⟨_, rfl, hE, hK, A, a, B, b, rfl, h1.more fun k hk h2 => ?_⟩
  rcases h2 with h2 | h2
  · exact .inl (hS k h2)
  · exact .inr ⟨h2, hk⟩
theorem OutD.fill {y : V} {w0 w : World} {n m g k : Nat} {a0 a1 a2 a3 a4 b : Value} (hE : Ext w0 w) (hb : BoxQ w0.heap.size g k (.pointer (some ⟨g, 0, none⟩)) w) (hv : OutD w0.heap.size y n m (.tuple #[.agg #[a0, a1, a2, a3, a4], b]) w) (hap : k ≤ n ∨ m ≤ g) :
    Ext w0 (fillW w g a0 a1 a2 a3 a4) ∧ Blk (fillW w g a0 a1 a2 a3 a4) g TVAL #[a0, a1, a2, a3, a4] ∧ VAt (fillW w g a0 a1 a2 a3 a4) (fun _ => True) (.agg #[a0, a1, a2, a3, a4]) y := by
  obtain ⟨h0, A, c, A', c', h4, h5⟩ := hv
  simp only [Value.tuple.injEq, Array.mk.injEq, List.cons.injEq, Value.agg.injEq, and_true] at h4
  obtain ⟨⟨rfl, rfl, rfl, rfl, rfl⟩, _⟩ := h4
  have hk : Keep (· = g) w (fillW w g (U8 y.kind) (.int .i64 y.n) (.string y.s) (.slice A y.l.length c) (.slice A' y.o.length c')) := set5_keep w g 0 _ _ _ _ _
  refine ⟨hE.trans hk fun q hq e => by have := hb.1; omega, set5_to hb.2.2.2 rfl _ _ _ _ _, (h5.keep hk fun q hq e => ?_).more fun _ _ _ => trivial⟩
  subst e
  have h1 := hb.1
  have h2 := hb.2.2.1
  omega
/-- A slice of components that is full. -/
def FullC (l : List Cp) (v : Value) (w : World) : Prop := ∃ ad, v = .slice (some ad) l.length l.length ∧ Sl ECp w (fun _ => True) v l
theorem FullC.ext {l : List Cp} {v : Value} {w w' : World} (h : FullC l v w) (he : Ext w w') : FullC l v w' := by
  obtain ⟨ad, e, h⟩ := h
  exact ⟨ad, e, h.ext ECp.ok he⟩
/-- A slice of components. -/
def SomeC (l : List Cp) (v : Value) (w : World) : Prop := Sl ECp w (fun _ => True) v l
theorem SomeC.ext {l : List Cp} {v : Value} {w w' : World} (h : SomeC l v w) (he : Ext w w') : SomeC l v w' := Sl.ext ECp.ok h he
theorem ty_cp : TyInfo Tryd.prog 37 TCMP 12 168 := by
  obtain ⟨i, h1, h2, h3, h4⟩ := info_parts (show (Tryd.prog.info? TCMP).map (fun i => (i.zero, i.size, i.bytes)) = some (some (.agg #[.int .u8 0, .slice none 0 0, .string ⟨#[]⟩, .int .i64 0, .int .i64 0, .int .i64 0, .int .u8 0, .int .i64 0, .string ⟨#[]⟩, .slice none 0 0, .slice none 0 0, .string ⟨#[]⟩]), 12, 168) from by kernel_rfl)
  exact ⟨Tryd.underlying37, i, _, h1, h2, h3, h4, rfl⟩
theorem full_new {w : World} {c : Cp} {pv lv ov : Value} (h1 : Sl ESt w (fun _ => True) pv c.path) (h2 : Sl EVal w (fun _ => True) lv c.v.l) (h3 : Sl EField w (fun _ => True) ov c.v.o) :
    FullC [c] (.slice (some ⟨w.heap.size, 0, none⟩) 1 1) (w.alloc (.cells (cpCells c pv lv ov) TCMP)) := by
  have hE : Ext w (w.alloc (.cells (cpCells c pv lv ov) TCMP)) := (Keep.refl _ _).alloc _
  refine ⟨_, rfl, ⟨cpL c pv lv ov, ⟨rfl, _, 1, rfl, Nat.le_refl _, by simp [maxLen], fun _ => ⟨w.heap.size, 0, rfl, trivial, (Blk.new _ _ _).lt, fun j u hu => ?_⟩⟩, Cells.single ⟨pv, lv, ov, rfl, h1.ext ESt.ok hE, h2.ext EVal.ok hE, h3.ext EField.ok hE⟩⟩⟩
  rw [Nat.zero_add, (Blk.new w TCMP (cpCells c pv lv ov)).cell]
  simpa using hu
theorem full_cat {w : World} {c : Cp} {ad : Addr} {u2 : Value} {cs : List Cp} (h1 : FullC [c] (.slice (some ad) 1 1) w) (h2 : SomeC cs u2 w) (hn : cs.length ≤ 10) :
    ∃ v' w', (Builtin.append_ #[37, 37] 37 #[.slice (some ad) 1 1, u2]).run Tryd.prog w = .ok v' w' ∧ SomeC ([c] ++ cs) v' w' ∧ Ext w w' := by
  obtain ⟨ad', e, h1⟩ := h1
  injection e with e _ _
  injection e with e
  subst e
  obtain ⟨v', w', h3, h4, h5⟩ := app_ext ECp.ok ty_cp 37 h1 (by simp) h2 (by simp [maxLen]; omega) (by simp; omega)
  exact ⟨v', w', h3, h4, h5⟩
theorem turn_some {w : World} {S S2 : BS} {u t : Value} {x y : Cp} {left : Bool} {cs : List Cp} (hx : CAt w S u x) (hy : CAt w S2 t y) (hf : Fit x) (bx : Bd x) (by_ : Bd y) (px : x.path = []) (py : y.path = []) (ht : turnC true x y left = cs) :
    Calls Tryd.prog 13 #[u, t, .bool left] w fun e w' => ∃ v, e = .returned v ∧ Ext w w' ∧ SomeC cs v w' := by
  refine (turn_list w S S2 u t x y left hx hy hf bx by_ true (by rw [px, py]; simp)).mono ?_
  rintro e w' ⟨v, rfl, h1, h2⟩
  rw [ht] at h1
  exact ⟨v, rfl, h2, h1.more ECp.ok fun _ _ _ => trivial⟩
end Go.Proofs.YtioplgfopillnaaDoor
