/- path.Put, by contract. -/
import Derived.Test.YtjdpljjbgggpiaaDoorPathAtP
import Derived.Test.YtjdpljjbgggpiaaDoorPathG
import Derived.Laws.IdiomCopy
set_option linter.unusedSimpArgs false
set_option linter.unusedVariables false
namespace Go.Proofs.YtjdpljjbgggpiaaDoor
open Go.RowKit
set_option linter.unusedVariables false

theorem set5_cells (w : World) (b o : Nat) (v0 v1 v2 v3 v4 : Value) : set5 w b o v0 v1 v2 v3 v4 = w.setCells b o [v0, v1, v2, v3, v4] := rfl
theorem set5_at {w : World} {b o : Nat} {cs : List Value} (h : At5 w b o cs) (hl : cs.length = 5) (v0 v1 v2 v3 v4 : Value) : At5 (set5 w b o v0 v1 v2 v3 v4) b o [v0, v1, v2, v3, v4] := by
  intro j u hu
  have hj := (List.getElem?_eq_some_iff.1 hu).1
  rw [set5_cells, World.cell?_setCells_in b _ o w (fun i hi => by
    have hi' : i < cs.length := by simp at hi; omega
    rw [h i cs[i] (by simp [hi'])]; rfl) j hj]
  rw [List.getElem?_eq_getElem hj] at hu
  exact hu
theorem set5_out (w : World) (b o : Nat) (v0 v1 v2 v3 v4 : Value) (i : Nat) (hi : i < o ∨ o + 5 ≤ i) : (set5 w b o v0 v1 v2 v3 v4).cell? ⟨b, i, none⟩ = w.cell? ⟨b, i, none⟩ := by
  rw [set5_cells]
  exact World.cell?_setCells_out b _ o w _ fun _ _ => by simpa using hi

/-- What the closure of Put leaves. -/
def Put1Is (w : World) (b off : Nat) (x : V) (w' : World) : Prop := ∃ cs, At5 w' b off cs ∧ rdV w' (fun q => w.heap.size ≤ q) x cs ∧ Keep (· = b) w w' ∧ ∀ i, (i < off ∨ off + 5 ≤ i) → w'.cell? ⟨b, i, none⟩ = w.cell? ⟨b, i, none⟩
set_option maxHeartbeats 800000 in
theorem put1_ok (w : World) (b off xb : Nat) (x : V) (S : BS) (cs : List Value) (lv ov : Value) (hat : At5 w b off cs) (hl5 : cs.length = 5) (hfz : ∀ i, w.frozen? ⟨b, i, none⟩ = false) (hb : Blk w xb TVAL #[U8 x.kind, .int .i64 x.n, .string x.s, lv, ov]) (hx : VAt w S (.agg #[U8 x.kind, .int .i64 x.n, .string x.s, lv, ov]) x) (hsz : x.size ≤ 1000000) :
    Calls Tryd.prog 30 #[.pointer (some ⟨b, off, none⟩), .pointer (some ⟨xb, 0, none⟩)] w fun e w' => e = .returned (.tuple #[]) ∧ Put1Is w b off x w' := by
  have hx' := hx
  obtain ⟨lv', ov', e, hl, ho⟩ := hx'
  simp only [Value.agg.injEq] at e
  simp at e
  obtain ⟨rfl, rfl⟩ := e
  obtain ⟨A, c, rfl, hlc, hcm⟩ := hl.shape
  obtain ⟨A', c', rfl, hlc', hcm'⟩ := ho.shape
  have q0 : w.cell? ⟨xb, 0, none⟩ = some (U8 x.kind) := hb.cell 0
  have q1 : w.cell? ⟨xb, 1, none⟩ = some (.int .i64 x.n) := hb.cell 1
  have q2 : w.cell? ⟨xb, 2, none⟩ = some (.string x.s) := hb.cell 2
  have q3 : w.cell? ⟨xb, 3, none⟩ = some (.slice A x.l.length c) := hb.cell 3
  have q4 : w.cell? ⟨xb, 4, none⟩ = some (.slice A' x.o.length c') := hb.cell 4
  have HC := hid (copy_valT _ x (Nat.le_refl _) hsz _ S w hx)
  have HAT := hid hat
  have HFZ := hid hfz
  have hbl : b < w.heap.size := by
    obtain ⟨u, hu⟩ : ∃ u, cs[0]? = some u := ⟨cs[0]'(by omega), by simp⟩
    exact lt_of_cell (hat 0 u hu)
  clear hx hl ho hb hat hfz hlc hcm hlc' hcm'
  go_enter Tryd.func30, Tryd.ntmps30
  go_wp2_with fail
  refine HC.out.mono ?_
  rintro e w1 ⟨lv1, ov1, rfl, h1, hE⟩
  obtain ⟨⟨A1, d1, rfl⟩, ⟨A2, d2, rfl⟩⟩ := h1.shapes
  have hat1 : At5 w1 b off cs := fun j u hu => (hE.cell (lt_of_cell (HAT.out j u hu)) id).trans (HAT.out j u hu)
  have hf : ∀ i, w1.frozen? ⟨b, i, none⟩ = false := fun i => (hE.frozen (p := ⟨b, i, none⟩) hbl id).trans (HFZ.out i)
  have f0 := hf off
  have f1 := hf (off + 1)
  have f2 := hf (off + 2)
  have f3 := hf (off + 3)
  have f4 := hf (off + 4)
  have c0 := hat1 0 cs[0] (by simp)
  have c1 := hat1 1 cs[1] (by simp)
  have c2 := hat1 2 cs[2] (by simp)
  have c3 := hat1 3 cs[3] (by simp)
  have c4 := hat1 4 cs[4] (by simp)
  simp only [Nat.add_zero] at c0
  have hk := set5_keep w1 b off (U8 x.kind) (.int .i64 x.n) (.string x.s) (.slice A1 x.l.length d1) (.slice A2 x.o.length d2)
  have h2 : Put1Is w b off x (set5 w1 b off (U8 x.kind) (.int .i64 x.n) (.string x.s) (.slice A1 x.l.length d1) (.slice A2 x.o.length d2)) := by
    refine ⟨_, set5_at hat1 hl5 _ _ _ _ _, TV_rd _ _ _ _ (fun q hq _ => hq) (TV_turn h1 hk hbl), keep_ext1 hE hk, fun i hi => (set5_out _ _ _ _ _ _ _ _ i hi).trans (hE.cell hbl id)⟩
  have H := hid h2
  clear h1 h2 hk hE hat1 hf q0 q1 q2 q3 q4
  go_wp2
  go_end0
  exact ⟨rfl, H.out⟩

/-- What Put hands back. -/
def PutIs (w : World) (r : Option V) (e : Ending) (w' : World) : Prop := match r with
  | none => e = .returned (.tuple #[ZVAL, .int .u16 30]) ∧ Ext w w'
  | some y => ∃ u, e = .returned (.tuple #[u, .int .u16 0]) ∧ VAt w' (fun q => w.heap.size ≤ q) u y ∧ Ext w w'
/-- Where Put stands. -/
def PutI (w0 : World) (xb rb : Nat) (u3 u4 : Value) (v x : V) (p : List St) (w' : World) (j b off : Nat) (y : V) : Prop :=
  ∃ (f : V → V) (a c : Nat), getV v (p.take j) = some y ∧ (∀ z, putV v (p.take j) z = some (f z)) ∧ PtrT w' b off y a c ∧ Hole w' (fun q => w0.heap.size ≤ q) rb 0 b off f a c ∧ c ≤ w'.heap.size ∧ b < w'.heap.size ∧ w0.heap.size ≤ a ∧ w0.heap.size ≤ b ∧ b ≠ xb ∧ Ext w0 w' ∧
    Blk w' xb TVAL #[U8 x.kind, .int .i64 x.n, .string x.s, u3, u4] ∧ xb < a ∧ b ≠ xb + 1 ∧ xb + 1 < a ∧ Blk w' (xb + 1) TVAL #[.int .u8 0, .int .i64 0, .string ⟨#[]⟩, .slice none 0 0, .slice none 0 0]
theorem PutI.ext {w0 w' w'' : World} {xb rb : Nat} {u3 u4 : Value} {v x y : V} {p : List St} {j b off : Nat} (h : PutI w0 xb rb u3 u4 v x p w' j b off y) (he : Ext w' w'') : PutI w0 xb rb u3 u4 v x p w'' j b off y := by
  obtain ⟨f, a, c, h1, h2, h3, h4, h5, h6, h7, h8, h9, h10, h11, h12, h13, h14, h15⟩ := h
  exact ⟨f, a, c, h1, h2, h3.ext he, h4.ext he h5 h6, Nat.le_trans h5 he.size, Nat.lt_of_lt_of_le h6 he.size, h7, h8, h9, h10.ext he, h11.keep he id, h12, h13, h14, h15.keep he id⟩
theorem PutI.step {w0 w' : World} {xb rb : Nat} {u3 u4 : Value} {v x y : V} {p : List St} {j b off : Nat} (h : PutI w0 xb rb u3 u4 v x p w' j b off y) (hj : j < p.length) :
    ∃ lv ov S1 S2, At5 w' b off [U8 y.kind, .int .i64 y.n, .string y.s, lv, ov] ∧ Sl EVal w' S1 lv y.l ∧ Sl EField w' S2 ov y.o ∧ NextI (PutI w0 xb rb u3 u4 v x p) w' j lv ov y p[j] := by
  obtain ⟨f, a, c, h1, h2, h3, h4, h5, h6, h7, h8, h9, h10, h11, h12, h13, h14, h15⟩ := h
  have h3' := h3
  obtain ⟨cs, g1, g2, g3, g4⟩ := h3'
  obtain ⟨lv, ov, rfl, hl, ho⟩ := rdV_iff.1 (TV_rd (S := fun q => a ≤ q ∧ q < c) _ _ _ _ (fun q h1 h2 => ⟨h1, h2⟩) g2)
  refine ⟨lv, ov, _, _, g1, hl, ho, ?_⟩
  have hsn := getV_snoc (p.take j) v p[j]
  have hpn := fun z => putV_append (p.take j) [p[j]] v z
  rw [List.take_append_getElem hj, h1, Option.bind_some] at hsn
  rw [List.take_append_getElem hj, h1] at hpn
  simp only [Option.bind_some] at hpn
  unfold NextI
  cases hst : stepV y p[j] with
  | none => trivial
  | some loc =>
    rw [hst, Option.bind_some] at hsn
    obtain ⟨z, hz⟩ := stepV_child hst
    rw [hz] at hsn
    have hpn' : ∀ t, putV v (p.take (j + 1)) t = some (f (y.put loc t)) := fun t => by rw [hpn t, putV_one hst, Option.bind_some, h2]
    have hSx : ∀ q, a ≤ q → q < c → w0.heap.size ≤ q := fun q hq _ => by omega
    cases y with
    | mk k n s l o =>
      cases loc with
      | l i =>
        have hi := (List.getElem?_eq_some_iff.1 (show l[i]? = some z from hz)).1
        obtain ⟨g, cap, ai, bi, lv', ov', e1, e2, e3, e4, e5, e8, e6⟩ := h4.stepL h3 hSx h5 i hi
        rw [(List.getElem?_eq_some_iff.1 (show l[i]? = some z from hz)).2] at e3
        have e7 : lv' = lv := by
          have q1 := e1 3 lv' rfl
          have q2 := g1 3 lv rfl
          exact Option.some.inj (q1.symm.trans q2)
        subst e7
        obtain ⟨cs3, k1, k2, k3, k4⟩ := e3
        have k5 := TV_le _ _ _ _ k2
        obtain ⟨u, hu⟩ : ∃ u, cs3[0]? = some u := ⟨cs3[0]'(by omega), by simp⟩
        have hgl : g < w'.heap.size := lt_of_cell (k1 0 u hu)
        exact ⟨g, 0, cap, z, e2, _, ai, bi, hsn, hpn', ⟨cs3, k1, k2, k3, k4⟩, e6, by omega, hgl, by omega, by omega, by omega, h10, h11, by omega, by omega, by omega, h15⟩
      | o i =>
        cases hf : o[i]? with
        | none => rw [child_o] at hz; simp only [V.o] at hz; rw [hf] at hz; cases hz
        | some t =>
          rw [child_o] at hz; simp only [V.o] at hz; rw [hf] at hz
          obtain rfl : t.v = z := by simpa using hz
          have hi := (List.getElem?_eq_some_iff.1 hf).1
          obtain ⟨g, cap, ai, bi, lv', ov', e1, e2, e3, e4, e5, e8, e6⟩ := h4.stepO h3 hSx h5 i hi
          rw [(List.getElem?_eq_some_iff.1 hf).2] at e3
          have e7 : ov' = ov := by
            have q1 := e1 4 ov' rfl
            have q2 := g1 4 ov rfl
            exact Option.some.inj (q1.symm.trans q2)
          subst e7
          obtain ⟨cs3, k1, k2, k3, k4⟩ := e3
          have k5 := TV_le _ _ _ _ k2
          obtain ⟨u, hu⟩ : ∃ u, cs3[0]? = some u := ⟨cs3[0]'(by omega), by simp⟩
          have hgl : g < w'.heap.size := lt_of_cell (k1 0 u hu)
          exact ⟨g, 0, cap, t.v, e2, _, ai, bi, hsn, hpn', ⟨cs3, k1, k2, k3, k4⟩, e6, by omega, hgl, by omega, by omega, by omega, h10, h11, by omega, by omega, by omega, h15⟩

theorem TV_five {w : World} {v : V} {a b : Nat} {lv ov : Value} (h : TV w v a b [U8 v.kind, .int .i64 v.n, .string v.s, lv, ov]) : VAt w (fun q => a ≤ q ∧ q < b) (.agg #[U8 v.kind, .int .i64 v.n, .string v.s, lv, ov]) v := TV_at h fun q h1 h2 => ⟨h1, h2⟩
set_option maxHeartbeats 3200000 in
theorem path_put (w : World) (u ux pv : Value) (v x : V) (p : List St) (S S' S2 : BS) (hu : VAt w S u v) (hx : VAt w S2 ux x) (hp : Sl ESt w S' pv p) (hsz : v.size ≤ 1000000) (hszx : x.size ≤ 1000000) :
    Calls Tryd.prog 17 #[u, pv, ux] w fun e w' => PutIs w (putV v p x) e w' := by
  obtain ⟨lv, ov, rfl, hl, ho⟩ := hu
  obtain ⟨A, c, rfl, hlc, hcm⟩ := hl.shape
  obtain ⟨A', c', rfl, hlc', hcm'⟩ := ho.shape
  obtain ⟨lx, ox, rfl, hlx, hox⟩ := hx
  obtain ⟨B, d, rfl, _⟩ := hlx.shape
  obtain ⟨B', d', rfl, _⟩ := hox.shape
  obtain ⟨Ap, cp, rfl, _⟩ := hp.shape
  obtain ⟨w1, hw1⟩ : ∃ w1, w1 = w.alloc (.cells #[U8 v.kind, .int .i64 v.n, .string v.s, .slice A v.l.length c, .slice A' v.o.length c'] TVAL) := ⟨_, rfl⟩
  obtain ⟨w2, hw2⟩ : ∃ w2, w2 = w1.alloc (.cells #[U8 x.kind, .int .i64 x.n, .string x.s, .slice B x.l.length d, .slice B' x.o.length d'] TVAL) := ⟨_, rfl⟩
  obtain ⟨w3, hw3⟩ : ∃ w3, w3 = w2.alloc (.cells #[.int .u8 0, .int .i64 0, .string ⟨#[]⟩, .slice none 0 0, .slice none 0 0] TVAL) := ⟨_, rfl⟩
  have hz1 : w1.heap.size = w.heap.size + 1 := by rw [hw1]; simp
  have hz2 : w2.heap.size = w.heap.size + 2 := by rw [hw2]; simp [hz1]
  have hE1 : Ext w w1 := by rw [hw1]; exact (Keep.refl _ _).alloc _
  have hE2 : Ext w1 w2 := by rw [hw2]; exact (Keep.refl _ _).alloc _
  have hE3 : Ext w2 w3 := by rw [hw3]; exact (Keep.refl _ _).alloc _
  have hb1 : Blk w3 w.heap.size TVAL #[U8 v.kind, .int .i64 v.n, .string v.s, .slice A v.l.length c, .slice A' v.o.length c'] := by
    have := Blk.new w TVAL #[U8 v.kind, .int .i64 v.n, .string v.s, .slice A v.l.length c, .slice A' v.o.length c']
    rw [← hw1] at this
    exact (this.keep hE2 id).keep hE3 id
  have hb2 : Blk w3 (w.heap.size + 1) TVAL #[U8 x.kind, .int .i64 x.n, .string x.s, .slice B x.l.length d, .slice B' x.o.length d'] := by
    have := Blk.new w1 TVAL #[U8 x.kind, .int .i64 x.n, .string x.s, .slice B x.l.length d, .slice B' x.o.length d']
    rw [← hw2, hz1] at this
    exact this.keep hE3 id
  have hb3 : Blk w3 (w.heap.size + 2) TVAL #[.int .u8 0, .int .i64 0, .string ⟨#[]⟩, .slice none 0 0, .slice none 0 0] := by
    have := Blk.new w2 TVAL #[.int .u8 0, .int .i64 0, .string ⟨#[]⟩, .slice none 0 0, .slice none 0 0]
    rwa [← hw3, hz2] at this
  have hE : Ext w w3 := (hE1.ext hE2).ext hE3
  have hsz3 : w3.heap.size = w.heap.size + 3 := by rw [hw3]; simp [hz2]
  have HC := hid (copy_valT _ v (Nat.le_refl _) hsz (.agg #[U8 v.kind, .int .i64 v.n, .string v.s, .slice A v.l.length c, .slice A' v.o.length c']) S w3 ⟨_, _, rfl, hl.ext EVal.ok hE, ho.ext EField.ok hE⟩)
  have HX := hid (show VAt w S2 (.agg #[U8 x.kind, .int .i64 x.n, .string x.s, .slice B x.l.length d, .slice B' x.o.length d']) x from ⟨_, _, rfl, hlx, hox⟩)
  have HE := hid hE
  have HB2 := hid hb2
  have HB3 := hid hb3
  have HP := hid hp
  have q0 : w3.cell? ⟨w.heap.size, 0, none⟩ = some (U8 v.kind) := hb1.cell 0
  have q1 : w3.cell? ⟨w.heap.size, 1, none⟩ = some (.int .i64 v.n) := hb1.cell 1
  have q2 : w3.cell? ⟨w.heap.size, 2, none⟩ = some (.string v.s) := hb1.cell 2
  have q3 : w3.cell? ⟨w.heap.size, 3, none⟩ = some (.slice A v.l.length c) := hb1.cell 3
  have q4 : w3.cell? ⟨w.heap.size, 4, none⟩ = some (.slice A' v.o.length c') := hb1.cell 4
  clear hE hb1 hb2 hb3 hE1 hE2 hE3 hl ho hp hlc hcm hlc' hcm' hz1 hz2 hlx hox
  have e3 : w3 = ((w.alloc (.cells #[U8 v.kind, .int .i64 v.n, .string v.s, .slice A v.l.length c, .slice A' v.o.length c'] TVAL)).alloc (.cells #[U8 x.kind, .int .i64 x.n, .string x.s, .slice B x.l.length d, .slice B' x.o.length d'] TVAL)).alloc (.cells #[.int .u8 0, .int .i64 0, .string ⟨#[]⟩, .slice none 0 0, .slice none 0 0] TVAL) := by rw [hw3, hw2, hw1]
  clear hw1 hw2 hw3
  go_enter Tryd.func17, Tryd.ntmps17
  go_wp2_with fail
  change Calls _ _ _ (((w.alloc (.cells #[U8 v.kind, .int .i64 v.n, .string v.s, .slice A v.l.length c, .slice A' v.o.length c'] TVAL)).alloc (.cells #[U8 x.kind, .int .i64 x.n, .string x.s, .slice B x.l.length d, .slice B' x.o.length d'] TVAL)).alloc (.cells #[.int .u8 0, .int .i64 0, .string ⟨#[]⟩, .slice none 0 0, .slice none 0 0] TVAL)) _
  rw [← e3]
  refine HC.out.mono ?_
  rintro e w4 ⟨lv1, ov1, rfl, h1, hE4⟩
  obtain ⟨⟨A8, d8, rfl⟩, ⟨A9, d9, rfl⟩⟩ := h1.shapes
  obtain ⟨w5, hw5⟩ : ∃ w5, w5 = w4.alloc (.cells #[U8 v.kind, .int .i64 v.n, .string v.s, .slice A8 v.l.length d8, .slice A9 v.o.length d9] TVAL) := ⟨_, rfl⟩
  have hE5 : Ext w4 w5 := by rw [hw5]; exact (Keep.refl _ _).alloc _
  have hb5 : Blk w5 w4.heap.size TVAL #[U8 v.kind, .int .i64 v.n, .string v.s, .slice A8 v.l.length d8, .slice A9 v.o.length d9] := by rw [hw5]; exact Blk.new _ _ _
  have hz5 : w5.heap.size = w4.heap.size + 1 := by rw [hw5]; simp
  have hz4 := hE4.size
  have hI : PutI w3 (w.heap.size + 1) w4.heap.size (.slice B x.l.length d) (.slice B' x.o.length d') v x p w5 0 w4.heap.size 0 v :=
    ⟨id, w3.heap.size, w4.heap.size, rfl, fun z => rfl, ⟨_, fun j u hu => by rw [Nat.zero_add, hb5.cell]; simpa using hu, TV_keep hE5 _ _ _ _ (fun _ _ _ x => x) h1, by omega, fun i => hb5.frozen i⟩, Hole.start _ _ _ _ _ _, by omega, by omega, Nat.le_refl _, hz4, by omega, hE4.ext hE5,
      (HB2.out.keep hE4 id).keep hE5 id, by omega, by omega, by omega, (HB3.out.keep hE4 id).keep hE5 id⟩
  have HAT := hid (at_put (PutI w3 (w.heap.size + 1) w4.heap.size (.slice B x.l.length d) (.slice B' x.o.length d') v x p) (fun w1 b off y w' => Put1Is w1 b off x w')
    w5 S' (.slice Ap p.length cp) (.pointer (some ⟨w.heap.size + 1, 0, none⟩)) p w4.heap.size 0 v (((HP.out.ext ESt.ok HE.out).ext ESt.ok hE4).ext ESt.ok hE5) hI
    (fun wa wb j b off y h he => h.ext he) (fun wa j hj b off y h => h.step hj)
    (fun wa b off y h he => by
      obtain ⟨f, a, c, h1, h2, ⟨cs, h31, h32, _, h33⟩, h4, h5, h6, h7, h8, h9, h10, h11, h12, h13, h14, h15⟩ := h
      exact put1_ok wa b off (w.heap.size + 1) x S2 cs _ _ h31 (TV_le _ _ _ _ h32).2 h33 h11 (HX.out.ext (HE.out.ext h10)) hszx))
  have HE5 := hid (HE.out.ext (hE4.ext hE5))
  have HZ5 := hid (show w3.heap.size ≤ w5.heap.size from by omega)
  have HB35 := hid ((HB3.out.keep hE4 id).keep hE5 id)
  have HEB := hid (hE4.ext hE5)
  clear hI hb5 h1 hE4 hE5 q0 q1 q2 q3 q4 HC
  go_wp2_with fail
  change Calls _ _ _ (w4.alloc (.cells #[U8 v.kind, .int .i64 v.n, .string v.s, .slice A8 v.l.length d8, .slice A9 v.o.length d9] TVAL)) _
  rw [← hw5]
  clear hw5 e3
  refine HAT.out.mono ?_
  rintro e w7 (⟨rfl, hE7, j, b, off, y, wj, hj, ⟨f, a, c, h1, _⟩, hst⟩ | ⟨rfl, w6, b, off, y, hE6, ⟨f, a, c, h1, h2, h3, h4, h5, h6, h7, h8, h9, h10, h11, h12, h13, h14, h15⟩, hq⟩)
  · have hg : putV v p x = none := by
      have hsn := getV_append (p.take j) (p.drop j) v
      rw [List.take_append_drop, h1, Option.bind_some, List.drop_eq_getElem_cons hj] at hsn
      have hn : getV v p = none := by
        rw [hsn]
        simp only [getV, hst]
      have hps := putV_some p v x
      rw [hn] at hps
      cases hpv : putV v p x with
      | none => rfl
      | some t => rw [hpv] at hps; simp at hps
    have HG := hid hg
    have HR := hid (HB35.out.keep hE7 id)
    have HE7 := hid (HE5.out.ext hE7)
    clear hE7 h1 hst hg HAT
    have r0 := HR.out.cell 0
    have r1 := HR.out.cell 1
    have r2 := HR.out.cell 2
    have r3 := HR.out.cell 3
    have r4 := HR.out.cell 4
    have f0 := HR.out.frozen 0
    have f1 := HR.out.frozen 1
    have f2 := HR.out.frozen 2
    have f3 := HR.out.frozen 3
    have f4 := HR.out.frozen 4
    simp at r0 r1 r2 r3 r4
    have hk := set5_keep w7 (w.heap.size + 2) 0 (.int .u8 0) (.int .i64 0) (.string ⟨#[]⟩) (.slice none 0 0) (.slice none 0 0)
    have hbr : Blk (set5 w7 (w.heap.size + 2) 0 (.int .u8 0) (.int .i64 0) (.string ⟨#[]⟩) (.slice none 0 0) (.slice none 0 0)) (w.heap.size + 2) TVAL #[.int .u8 0, .int .i64 0, .string ⟨#[]⟩, .slice none 0 0, .slice none 0 0] := by
      obtain ⟨cur', h5, h6⟩ := set5_blk HR.out 0 (.int .u8 0) (.int .i64 0) (.string ⟨#[]⟩) (.slice none 0 0) (.slice none 0 0) (by simp)
      have : cur' = #[.int .u8 0, .int .i64 0, .string ⟨#[]⟩, .slice none 0 0, .slice none 0 0] := by
        apply Array.toList_inj.1
        rw [h6]
        simp
      rw [this] at h5
      exact h5
    have t0 := hbr.cell 0
    have t1 := hbr.cell 1
    have t2 := hbr.cell 2
    have t3 := hbr.cell 3
    have t4 := hbr.cell 4
    simp at t0 t1 t2 t3 t4
    have HT := hid (And.intro t0 (And.intro t1 (And.intro t2 (And.intro t3 t4))))
    have HE8 := hid (HE7.out.trans hk fun q hq e => by omega)
    clear t0 t1 t2 t3 t4 hbr hk
    go_wp2
    obtain ⟨t0, t1, t2, t3, t4⟩ := HT.out
    refine bodyPost_ret (v := .tuple #[ZVAL, .int .u16 30]) (by simp [results, Tryd.results17, go_sem, t0, t1, t2, t3, t4]) rfl ?_
    rw [HG.out]
    exact ⟨rfl, HE8.out⟩
  · obtain ⟨cs, k1, k2, k3, k4⟩ := hq
    obtain ⟨rcs, k5, k6⟩ := h4 w7 (· = b) cs x k3 (fun q hq e => .inr e) k4 k1 (EVal.ok.more k2 fun q _ hq => Nat.le_trans h10.size hq)
    have HG := hid (h2 x)
    rw [List.take_length] at HG
    obtain ⟨A1, m1, d1, A2, m2, d2, rfl, _, _, hva⟩ := EVal_cells k6
    have HVA := hid hva
    have HR := hid (h15.keep k3 (fun e => h13 e.symm))
    have HE7 := hid ((HE.out.ext h10).trans k3 fun q hq e => by have := HE.out.size; omega)
    have o0 := k5 0 _ rfl
    have o1 := k5 1 _ rfl
    have o2 := k5 2 _ rfl
    have o3 := k5 3 _ rfl
    have o4 := k5 4 _ rfl
    simp only [Nat.zero_add] at o0 o1 o2 o3 o4
    clear h1 h2 h3 h4 h5 h6 h7 h8 h9 h10 h11 h12 h13 h14 h15 k1 k2 k3 k4 k5 k6 hE6 HAT hva
    generalize f x = z at *
    have r0 := HR.out.cell 0
    have r1 := HR.out.cell 1
    have r2 := HR.out.cell 2
    have r3 := HR.out.cell 3
    have r4 := HR.out.cell 4
    have f0 := HR.out.frozen 0
    have f1 := HR.out.frozen 1
    have f2 := HR.out.frozen 2
    have f3 := HR.out.frozen 3
    have f4 := HR.out.frozen 4
    simp at r0 r1 r2 r3 r4
    have hk := set5_keep w7 (w.heap.size + 2) 0 (U8 z.kind) (.int .i64 z.n) (.string z.s) (.slice A1 z.l.length d1) (.slice A2 z.o.length d2)
    have hbr : Blk (set5 w7 (w.heap.size + 2) 0 (U8 z.kind) (.int .i64 z.n) (.string z.s) (.slice A1 z.l.length d1) (.slice A2 z.o.length d2)) (w.heap.size + 2) TVAL #[U8 z.kind, .int .i64 z.n, .string z.s, .slice A1 z.l.length d1, .slice A2 z.o.length d2] := by
      obtain ⟨cur', h5, h6⟩ := set5_blk HR.out 0 (U8 z.kind) (.int .i64 z.n) (.string z.s) (.slice A1 z.l.length d1) (.slice A2 z.o.length d2) (by simp)
      have : cur' = #[U8 z.kind, .int .i64 z.n, .string z.s, .slice A1 z.l.length d1, .slice A2 z.o.length d2] := by
        apply Array.toList_inj.1
        rw [h6]
        simp
      rw [this] at h5
      exact h5
    have t0 := hbr.cell 0
    have t1 := hbr.cell 1
    have t2 := hbr.cell 2
    have t3 := hbr.cell 3
    have t4 := hbr.cell 4
    simp at t0 t1 t2 t3 t4
    have HT := hid (And.intro t0 (And.intro t1 (And.intro t2 (And.intro t3 t4))))
    have HE8 := hid (HE7.out.trans hk fun q hq e => by omega)
    have HV8 := hid ((HVA.out.keep hk (fun q hq e => by omega)).more (S' := fun q => w.heap.size ≤ q) fun q _ hq => by omega)
    clear t0 t1 t2 t3 t4 hbr hk
    go_wp2
    obtain ⟨t0, t1, t2, t3, t4⟩ := HT.out
    refine bodyPost_ret (v := .tuple #[.agg #[U8 z.kind, .int .i64 z.n, .string z.s, .slice A1 z.l.length d1, .slice A2 z.o.length d2], .int .u16 0]) (by simp [results, Tryd.results17, go_sem, t0, t1, t2, t3, t4]) rfl ?_
    rw [HG.out]
    exact ⟨_, rfl, HV8.out, HE8.out⟩
end Go.Proofs.YtjdpljjbgggpiaaDoor
