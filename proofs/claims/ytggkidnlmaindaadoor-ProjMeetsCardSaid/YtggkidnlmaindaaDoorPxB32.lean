/- TurnE: laid together. -/
import Derived.Test.YtggkidnlmaindaaDoorPxB21
import Derived.Test.YtggkidnlmaindaaDoorPxB17
import Derived.Deep.CutRange
import Derived.Deep.DeepCutAuto
set_option linter.unusedSimpArgs false
set_option linter.unusedVariables false
set_option maxHeartbeats 25600000
set_option maxRecDepth 20000
namespace Go.Proofs.YtggkidnlmaindaaDoor
open Go.RowKit
theorem set12 {w : World} {b : Nat} {T : TypeId} {cs : Array Value} (h : Blk w b T cs) (hc : cs.size = 12) (a0 a1 a2 a3 a4 a5 a6 a7 a8 a9 a10 a11 : Value) : Blk ((((((((((((w.setCell ⟨b, 0, none⟩ a0).setCell ⟨b, 1, none⟩ a1).setCell ⟨b, 2, none⟩ a2).setCell ⟨b, 3, none⟩ a3).setCell ⟨b, 4, none⟩ a4).setCell ⟨b, 5, none⟩ a5).setCell ⟨b, 6, none⟩ a6).setCell ⟨b, 7, none⟩ a7).setCell ⟨b, 8, none⟩ a8).setCell ⟨b, 9, none⟩ a9).setCell ⟨b, 10, none⟩ a10).setCell ⟨b, 11, none⟩ a11) b T #[a0, a1, a2, a3, a4, a5, a6, a7, a8, a9, a10, a11] := by
 obtain ⟨l⟩ := cs
 match l, hc with
 | [x0, x1, x2, x3, x4, x5, x6, x7, x8, x9, x10, x11], _ =>
  have h1 := ((((((((((((h.set_ 0 a0).set_ 1 a1).set_ 2 a2).set_ 3 a3).set_ 4 a4).set_ 5 a5).set_ 6 a6).set_ 7 a7).set_ 8 a8).set_ 9 a9).set_ 10 a10).set_ 11 a11)
  simp only [sqa, sqb, sqc] at h1
  exact h1
theorem getV_sv : ∀ (p : List St) (v x : V), SV v → getV v p = some x → SV x
 | [], v, x, h, e => by simp only [getV, Option.some.injEq] at e; subst e; exact h
 | s :: p, v, x, h, e => by
  simp only [getV] at e
  cases h1 : stepV v s with
  | none => rw [h1] at e; cases e
  | some loc =>
   rw [h1] at e
   simp only at e
   cases h2 : v.child? loc with
   | none => rw [h2] at e; cases e
   | some y =>
    rw [h2] at e
    refine getV_sv p y x ?_ e
    cases loc with
    | l i =>
     rw [child_l] at h2
     obtain ⟨hi, rfl⟩ := List.getElem?_eq_some_iff.1 h2
     exact h.childL hi
    | o i =>
     rw [child_o] at h2
     rw [Option.map_eq_some_iff] at h2
     obtain ⟨f, h3, rfl⟩ := h2
     obtain ⟨hi, rfl⟩ := List.getElem?_eq_some_iff.1 h3
     exact h.childO hi
theorem getV_front {v : V} {p : List St} (j : Nat) (h : ∃ x, getV v p = some x) : ∃ x, getV v (p.take j) = some x := by
 obtain ⟨x, h⟩ := h
 rw [← List.take_append_drop j p, getV_append] at h
 cases h1 : getV v (p.take j) with
 | none => rw [h1] at h; cases h
 | some y => exact ⟨y, rfl⟩
def slLen : Value → Nat
 | .slice _ n _ => n
 | _ => 0
def OneOk (v : V) (c : Cp) : Prop := ∃ x, getV v c.path = some x ∧ c.path.length ≤ 5 ∧ (∀ s ∈ c.path, StOk s) ∧
 ((x.kind = 2 ∧ ∃ n, (Lit.int .i64 n).wf = true ∧ c = ⟨1, c.path, ⟨#[]⟩, 0, 0, n, ZV, ⟨#[]⟩⟩) ∨
  (x.kind = 3 ∧ ∃ k i n s, TextOk x.s.size k i n s ∧ c = ⟨k, c.path, ⟨#[]⟩, i, 0, n, ZV, s⟩) ∨
  (x.kind = 4 ∧ ∃ k i j y, ListOk x.l.length k i j y ∧ SVd 0 y ∧ y.size ≤ 241 ∧ c = ⟨k, c.path, ⟨#[]⟩, i, j, 0, y, ⟨#[]⟩⟩) ∨
  (x.kind = 5 ∧ ∃ k key y, FieldOk x k key y ∧ SVd 0 y ∧ y.size ≤ 241 ∧ c = ⟨k, c.path, key, 0, 0, 0, y, ⟨#[]⟩⟩))
def Is12 (u : Value) : Prop := ∃ (k : Int) (A : Option Addr) (m c : Nat) (key : ByteArray) (i j n vk vn : Int) (vs : ByteArray) (B : Option Addr) (p q : Nat) (D : Option Addr) (r s : Nat) (t : ByteArray), u = .agg #[.int .u8 k, .slice A m c, .string key, .int .i64 i, .int .i64 j, .int .i64 n, .int .u8 vk, .int .i64 vn, .string vs, .slice B p q, .slice D r s, .string t]
def One6Is (v : V) (w : World) (e : Ending) (w' : World) : Prop := ∃ u n, e = .returned (.tuple #[u, .int .i64 n]) ∧ ((n = 0 ∧ Is12 u) ∨ (n = 1 ∧ ∃ c, CAt w' (fun q => w.heap.size ≤ q) u c ∧ OneOk v c)) ∧ Ext w w'
theorem one6_big (w : World) (S Sx : BS) (uv av : Value) (v : V) (a : Ac) (hv : VAt w Sx uv v) (hsv : SV v) (hvz : v.size ≤ 100000) (ha : AAt w S av a) (hwi : (Lit.int .i64 a.i).wf = true) (hwj : (Lit.int .i64 a.j).wf = true) (hwn : (Lit.int .i64 a.n).wf = true) :
  Calls Tryd.prog 51 #[uv, av] w (One6Is v w) := by
 obtain ⟨ap, vv, rfl, hap, hvv⟩ := ha
 obtain ⟨Aa, ca, rfl, _⟩ := hap.shape
 obtain ⟨Av, cv, rfl, _⟩ := hvv.shape
 obtain ⟨xl, xo, rfl, hxl, hxo⟩ := hv.cut
 obtain ⟨Al, cl, rfl, hcl, hclm⟩ := hxl.shape
 obtain ⟨Ao, co, rfl, hco, hcom⟩ := hxo.shape
 obtain ⟨W, hW⟩ : ∃ W, ((w.alloc (.cells #[U8 v.kind, .int .i64 v.n, .string v.s, .slice Al v.l.length cl, .slice Ao v.o.length co] TVAL)).alloc (.cells (acCells a (.slice Aa a.path.length ca) (.slice Av a.v.length cv)) TACT)).alloc (.cells ZCMP TCMP) = W := ⟨_, rfl⟩
 have hE : Ext w W := by rw [← hW]; exact (((Keep.refl _ _).alloc _).alloc _).alloc _
 have hsz : W.heap.size = w.heap.size + 3 := by rw [← hW]; simp
 have hb0 : Blk W w.heap.size TVAL #[U8 v.kind, .int .i64 v.n, .string v.s, .slice Al v.l.length cl, .slice Ao v.o.length co] := by rw [← hW]; exact ((Blk.new _ _ _).alloc _).alloc _
 have hb1 : Blk W (w.heap.size + 1) TACT (acCells a (.slice Aa a.path.length ca) (.slice Av a.v.length cv)) := by
  have := (Blk.new (w.alloc (.cells #[U8 v.kind, .int .i64 v.n, .string v.s, .slice Al v.l.length cl, .slice Ao v.o.length co] TVAL)) TACT (acCells a (.slice Aa a.path.length ca) (.slice Av a.v.length cv))).alloc (.cells ZCMP TCMP)
  rw [World.size_alloc, hW] at this
  exact this
 have hb2 : Blk W (w.heap.size + 2) TCMP ZCMP := by
  have := Blk.new ((w.alloc (.cells #[U8 v.kind, .int .i64 v.n, .string v.s, .slice Al v.l.length cl, .slice Ao v.o.length co] TVAL)).alloc (.cells (acCells a (.slice Aa a.path.length ca) (.slice Av a.v.length cv)) TACT)) TCMP ZCMP
  rw [World.size_alloc, World.size_alloc, hW] at this
  exact this
 have HV := hid (show VAt W (fun k => k < w.heap.size) (.agg #[U8 v.kind, .int .i64 v.n, .string v.s, .slice Al v.l.length cl, .slice Ao v.o.length co]) v from (VAt.ext ⟨_, _, rfl, hxl, hxo⟩ hE).more fun k _ h => h.2)
 have HAP := hid ((hap.more (S' := fun k => k < w.heap.size) EU8.ok fun k h _ => h).ext EU8.ok hE)
 have HVV := hid ((hvv.more (S' := fun k => k < w.heap.size) ETok.ok fun k h _ => h).ext ETok.ok hE)
 have HB0 := hid hb0
 have HB1 := hid hb1
 have HB2 := hid hb2
 have HE := hid hE
 have HSV := hid hsv
 have HWI := hid hwi
 have HWJ := hid hwj
 have HWN := hid hwn
 have a0 := hb1.cell 0
 obtain ⟨x0, x1, x2, x3, x4⟩ := sq5 hb0
 simp at a0
 clear hap hvv hv hxl hxo hE hb0 hb1 hb2 hsv hwi hwj hwn
 go_enter Tryd.func51, Tryd.ntmps51
 go_wp2_with fail
 refine (walk_ok v _ _ a.path _ _ W HV.out HSV.out (Nat.le_trans hvz (by decide)) HAP.out).mono ?_
 rintro e X1 ⟨pv, p, rfl, hpo, hwk, hE1⟩
 obtain ⟨Ap, cp, rfl, hpl, hpm⟩ := hpo.shape
 unfold maxLen at hpm
 have HP := hid ((own_st hpo).more (S' := fun k => W.heap.size ≤ k ∧ k < X1.heap.size) ESt.ok fun k h1 h2 => ⟨h2, h1⟩)
 have HWK := hid hwk
 replace HV := hid (HV.out.ext hE1)
 replace HVV := hid (HVV.out.ext ETok.ok hE1)
 replace HB0 := hid (HB0.out.keep hE1 id)
 replace HB1 := hid (HB1.out.keep hE1 id)
 replace HB2 := hid (HB2.out.keep hE1 id)
 replace HE := hid (HE.out.ext hE1)
 have HSZ1 := hid hE1.size
 replace HAP := hid (HAP.out.ext EU8.ok hE1)
 clear hpo hwk hE1 a0 x0 x1 x2 x3 x4
 obtain ⟨np, hnp⟩ : ∃ np, p.length = np := ⟨_, rfl⟩
 have HNP := hid hnp
 rw [hnp] at HP hpl ⊢
 have hnp8 : np ≤ 8 := by rw [← hnp]; exact HWK.out.len
 clear hnp
 go_upto_if 16 with fail
 go_cut [6] from 14 to 18 (fun pv wx => ∃ (m : Nat) (q : List St), wx = X1 ∧ pv = .slice Ap m cp ∧ q.length = m ∧ m ≤ 5 ∧ m ≤ cp ∧ (∃ x, getV v q = some x) ∧ (∀ s ∈ q, StOk s) ∧ Sl ESt X1 (fun k => W.heap.size ≤ k ∧ k < X1.heap.size) (.slice Ap m cp) q)
 case first =>
  by_cases h5 : 5 < np
  ·have hX5 : (5 : Int) < (np : Int) := by omega
   obtain ⟨hsf, hvf⟩ := front_fact (P := Tryd.prog) ESt.ok ty_st HP.out (hi := 5) (b := (5 : Int)) rfl (by rw [HNP.out]; omega)
   obtain ⟨m, hm⟩ : ∃ m : Nat, m = 5 := ⟨5, rfl⟩
   obtain ⟨q, hq⟩ : ∃ q, p.take 5 = q := ⟨_, rfl⟩
   rw [hq] at hvf
   have HQL := hid (show q.length = m from by rw [← hq, List.length_take, HNP.out, hm]; omega)
   have HGQ := hid (show ∃ x, getV v q = some x from by rw [← hq]; exact getV_front 5 HWK.out.get)
   have HSO := hid (show ∀ s ∈ q, StOk s from fun s hs => HWK.out.ok s (by rw [← hq] at hs; exact List.mem_of_mem_take hs))
   rw [← hm] at hvf hsf
   have HQ := hid hvf
   have hm5 : m ≤ 5 := by omega
   have hmc : m ≤ cp := by omega
   clear hq hm hvf HP HWK HNP
   go_wp2
   go_meet
   case rel => exact ⟨m, q, rfl, rfl, HQL.out, hm5, hmc, HGQ.out, HSO.out, HQ.out⟩
  ·have hX5 : ¬ (5 : Int) < (np : Int) := by omega
   go_wp2
   go_meet
   case rel => exact ⟨np, p, rfl, rfl, HNP.out, by omega, hpl, HWK.out.get, HWK.out.ok, HP.out⟩
 case rest =>
  obtain ⟨m, q, hwx, rfl, hql, hm5, hmc, hgq, hso, hq⟩ := hcut
  have hwx := hwx.symm
  subst hwx
  have HQL := hid hql
  have HGQ := hid hgq
  have HSO := hid hso
  have HQ := hid hq
  clear hql hgq hso hq HP HWK HNP hnp8 hpl
  obtain ⟨x0, x1, x2, x3, x4⟩ := sq5 HB0.out
  go_wp2_with fail
  refine (rget_new X1 _ _ v q _ _ HV.out HQ.out (Nat.le_trans hvz (by decide))).mono ?_
  rintro e X2 ⟨hg, hE2⟩
  obtain ⟨y0, hy0⟩ := HGQ.out
  rw [hy0] at hg
  obtain ⟨u0, rfl, hu0⟩ := hg
  obtain ⟨l0, o0, rfl, hl0, ho0⟩ := hu0
  obtain ⟨A5, n5, rfl, _⟩ := hl0.shape
  obtain ⟨B5, k5, rfl, _⟩ := ho0.shape
  have HY0 := hid hy0
  replace HV := hid (HV.out.ext hE2)
  replace HVV := hid (HVV.out.ext ETok.ok hE2)
  replace HAP := hid (HAP.out.ext EU8.ok hE2)
  replace HB0 := hid (HB0.out.keep hE2 id)
  replace HB1 := hid (HB1.out.keep hE2 id)
  replace HB2 := hid (HB2.out.keep hE2 id)
  replace HE := hid (HE.out.ext hE2)
  replace HQ := hid (HQ.out.ext ESt.ok hE2)
  have HSZ2 := hid hE2.size
  obtain ⟨X3, hX3⟩ : ∃ X3, X2.alloc (.cells #[U8 y0.kind, .int .i64 y0.n, .string y0.s, .slice A5 y0.l.length n5, .slice B5 y0.o.length k5] TVAL) = X3 := ⟨_, rfl⟩
  have hE3 : Ext X2 X3 := by rw [← hX3]; exact (Keep.refl _ _).alloc _
  have hbx : Blk X3 X2.heap.size TVAL #[U8 y0.kind, .int .i64 y0.n, .string y0.s, .slice A5 y0.l.length n5, .slice B5 y0.o.length k5] := by rw [← hX3]; exact Blk.new _ _ _
  have HVY := hid (show VAt X3 (fun k => k ≠ X2.heap.size) (.agg #[U8 y0.kind, .int .i64 y0.n, .string y0.s, .slice A5 y0.l.length n5, .slice B5 y0.o.length k5]) y0 from (VAt.more (S' := fun k => k ≠ X2.heap.size) ⟨_, _, rfl, hl0, ho0⟩ fun k hk _ => by omega).ext hE3)
  replace HV := hid (HV.out.ext hE3)
  replace HVV := hid (HVV.out.ext ETok.ok hE3)
  replace HAP := hid (HAP.out.ext EU8.ok hE3)
  replace HB0 := hid (HB0.out.keep hE3 id)
  replace HB1 := hid (HB1.out.keep hE3 id)
  replace HB2 := hid (HB2.out.keep hE3 id)
  replace HE := hid (HE.out.ext hE3)
  replace HQ := hid (HQ.out.ext ESt.ok hE3)
  have HBX := hid hbx
  have HXE := hid hX3
  have hsz3 : X2.heap.size < X3.heap.size := hbx.lt
  have hszb : w.heap.size + 3 ≤ X1.heap.size := by have := HSZ1.out; omega
  have hszc : X1.heap.size ≤ X2.heap.size := HSZ2.out
  clear hE2 hE3 hbx hl0 ho0 hy0 x0 x1 x2 x3 x4
  go_wp2_with fail
  clear hX3
  obtain ⟨bx, hbx⟩ : ∃ bx, X2.heap.size = bx := ⟨_, rfl⟩
  rw [hbx] at hsz3 hszc HBX HVY ⊢
  clear hbx HXE
  go_loopw [6] (fun pv wr => ∃ (j : Nat) (x : V) (A5 : Option Addr) (n5 : Nat) (B5 : Option Addr) (k5 : Nat), j ≤ m ∧ pv = .slice Ap j cp ∧ getV v (q.take j) = some x ∧ Blk wr bx TVAL #[U8 x.kind, .int .i64 x.n, .string x.s, .slice A5 x.l.length n5, .slice B5 x.o.length k5] ∧
   VAt wr (fun k => k ≠ bx) (.agg #[U8 x.kind, .int .i64 x.n, .string x.s, .slice A5 x.l.length n5, .slice B5 x.o.length k5]) x ∧ Keep (· = bx) X3 wr) (fun pv _ => slLen pv)
  case atStart => exact ⟨m, y0, A5, n5, B5, k5, Nat.le_refl _, rfl, by rw [List.take_of_length_le (Nat.le_of_eq HQL.out)]; exact HY0.out, HBX.out, HVY.out, Keep.refl _ _⟩
  case round =>
   obtain ⟨j, x, A5, n5, B5, k5, hj, rfl, hgj, hbx, hvx, hk⟩ := hrel
   have HGJ := hid hgj
   have HBXJ := hid hbx
   have HVXJ := hid hvx
   have HKJ := hid hk
   obtain ⟨y0c, y1c, y2c, y3c, y4c⟩ := sq5 hbx
   clear hgj hbx hvx hk HBX HVY HY0
   have hbxw : w.heap.size + 3 ≤ bx := by omega
   have hkd : x.kind.toNat < 6 := by
    rcases (SV_iff x).1 (getV_sv _ _ _ HSV.out HGJ.out) with ⟨h | h | h | h | h | h, _⟩ <;> (rw [h.1]; decide)
   by_cases hgo : 0 < j ∧ x.kind.toNat < 2
   ·have hj0 := hgo.1
    have hjX : (0 : Int) < (j : Int) := by omega
    ·have hkX : (x.kind.toNat : Int) < 2 := by omega
     clear hgo
     have HQJ := hid ((HQ.out.keep ESt.ok HKJ.out fun k h e => by omega).front ESt.ok (hi := j) (by rw [HQL.out]; exact hj))
     have hql : (q.take j).length = j := by rw [List.length_take, HQL.out]; omega
     obtain ⟨hsf2, hvf2⟩ := front_fact (P := Tryd.prog) ESt.ok ty_st HQJ.out (hi := j - 1) (b := (j : Int) - 1) (by omega) (by rw [hql]; omega)
     have htt : (q.take j).take (j - 1) = q.take (j - 1) := by rw [List.take_take]; congr 1; omega
     rw [htt] at hvf2
     have HQJ1 := hid hvf2
     have HVJ := hid (HV.out.keep HKJ.out fun k h e => by omega)
     have HB0J := hid (HB0.out.keep HKJ.out (by omega))
     obtain ⟨z0, z1, z2, z3, z4⟩ := sq5 HB0J.out
     clear hvf2 htt hql
     go_wp2_with fail
     refine (rget_new wr _ _ v (q.take (j - 1)) _ _ HVJ.out HQJ1.out (Nat.le_trans hvz (by decide))).mono ?_
     rintro e X4 ⟨hg, hE4⟩
     obtain ⟨y1, hy1⟩ := getV_front (p := q) (j - 1) HGQ.out
     rw [hy1] at hg
     obtain ⟨u1, rfl, hu1⟩ := hg
     obtain ⟨l1, o1, rfl, hl1, ho1⟩ := hu1
     obtain ⟨A6, n6, rfl, _⟩ := hl1.shape
     obtain ⟨B6, k6, rfl, _⟩ := ho1.shape
     have hbz := HBXJ.out.keep hE4 id
     obtain ⟨X5, hX5⟩ : ∃ X5, (((((X4.setCell ⟨bx, 0, none⟩ (.int .u8 (y1.kind.toNat : Int))).setCell ⟨bx, 1, none⟩ (.int .i64 y1.n)).setCell ⟨bx, 2, none⟩ (.string y1.s)).setCell ⟨bx, 3, none⟩ (.slice A6 y1.l.length n6)).setCell ⟨bx, 4, none⟩ (.slice B6 y1.o.length k6)) = X5 := ⟨_, rfl⟩
     have hk5 : Keep (· = bx) X4 X5 := by rw [← hX5]; exact (((((Keep.refl (· = bx) X4).set1 0 _).set1 1 _).set1 2 _).set1 3 _).set1 4 _
     have hbx5 : Blk X5 bx TVAL #[U8 y1.kind, .int .i64 y1.n, .string y1.s, .slice A6 y1.l.length n6, .slice B6 y1.o.length k6] := by
      rw [← hX5]; exact ((((hbz.set_ 0 (.int .u8 (y1.kind.toNat : Int))).set_ 1 (.int .i64 y1.n)).set_ 2 (.string y1.s)).set_ 3 (.slice A6 y1.l.length n6)).set_ 4 (.slice B6 y1.o.length k6)
     have hwl : bx < wr.heap.size := HBXJ.out.lt
     have HR5 := hid (And.intro hbx5 (And.intro (show VAt X5 (fun k => k ≠ bx) (.agg #[U8 y1.kind, .int .i64 y1.n, .string y1.s, .slice A6 y1.l.length n6, .slice B6 y1.o.length k6]) y1 from (VAt.more (S' := fun k => k ≠ bx) ⟨_, _, rfl, hl1, ho1⟩ fun k _ h => by omega).keep hk5 fun k h e => h e) ((HKJ.out.ext hE4).trans hk5 fun k _ h => h)))
     obtain ⟨f0, f1, f2, f3, f4⟩ := sqf5 hbz
     obtain ⟨e0, e1, e2, e3, e4⟩ := blk5 hbz
     have HX5 := hid hX5
     have HY1 := hid hy1
     clear hX5 hk5 hbx5 hbz hl1 ho1 hE4 hy1 y0c y1c y2c y3c y4c z0 z1 z2 z3 z4 hsf2
     go_wp2
     rw [HX5.out]
     exact ⟨⟨j - 1, y1, A6, n6, B6, k6, by omega, rfl, HY1.out, HR5.out⟩, by simp [slLen]; omega⟩
   ·rcases (show ¬ (0 : Int) < (j : Int) ∨ ((0 : Int) < (j : Int) ∧ ¬ (x.kind.toNat : Int) < 2) from by omega) with hjX | ⟨hjX, hkX⟩
    all_goals
     clear hgo
     have HSX := hid (getV_sv _ _ _ HSV.out HGJ.out)
     have HXZ := hid (Nat.le_trans (getV_size _ _ _ HGJ.out) hvz)
     have HQJ := hid ((HQ.out.keep ESt.ok HKJ.out fun k h e => by omega).front ESt.ok (hi := j) (by rw [HQL.out]; exact hj))
     have HQJL := hid (show (q.take j).length = j from by rw [List.length_take, HQL.out]; omega)
     have HB1J := hid (HB1.out.keep HKJ.out (by omega))
     have HB2J := hid (HB2.out.keep HKJ.out (by omega))
     have HVVJ := hid (HVV.out.keep ETok.ok HKJ.out fun k h e => by omega)
     have HAPJ := hid (HAP.out.keep EU8.ok HKJ.out fun k h e => by omega)
     have HEJ := hid (HE.out.trans HKJ.out fun k hk e => by omega)
     have hwl : bx < wr.heap.size := HBXJ.out.lt
     have hq0 : w.heap.size < wr.heap.size := by omega
     have hq1 : w.heap.size + 1 < wr.heap.size := by omega
     have hq2 : w.heap.size + 2 < wr.heap.size := by omega
     have hq3 : w.heap.size + 1 + 1 < wr.heap.size := by omega
     obtain ⟨ac0, ac1, ac2, ac3, ac4, ac5, ac6⟩ := sq7 HB1J.out
     obtain ⟨d0, d1, d2, d3, d4, d5, d6, d7, d8, d9, d10, d11⟩ := sq12 HB2J.out
     obtain ⟨g0, g1, g2, g3, g4, g5, g6, g7, g8, g9, g10, g11⟩ := sqf12 HB2J.out
     clear HQ HV HVV HAP HB0 HB1 HB2 HE
     by_cases hkn2 : x.kind.toNat = 2
     ·have hkz : (x.kind.toNat : Int) = 2 := by omega
      have hkind : x.kind = 2 := UInt8.toNat_inj.1 hkn2
      clear hkn2
      have HF := fun WZ (hk : Keep (fun k => k = wr.heap.size ∨ k = w.heap.size + 2) wr WZ) => HEJ.out.trans hk fun k hk e => by omega
      have HF := hid HF
      obtain ⟨WZ, hWZ⟩ : ∃ WZ, (((((((((((((wr.setCell ⟨w.heap.size + 1 + 1, 0, none⟩ (.int .u8 1)).setCell ⟨w.heap.size + 1 + 1, 1, none⟩ (.slice Ap j cp)).setCell ⟨w.heap.size + 1 + 1, 2, none⟩ (.string ⟨#[]⟩)).setCell ⟨w.heap.size + 1 + 1, 3, none⟩ (.int .i64 0)).setCell ⟨w.heap.size + 1 + 1, 4, none⟩ (.int .i64 0)).setCell ⟨w.heap.size + 1 + 1, 5, none⟩ (.int .i64 a.n)).setCell ⟨w.heap.size + 1 + 1, 6, none⟩ (.int .u8 0)).setCell ⟨w.heap.size + 1 + 1, 7, none⟩ (.int .i64 0)).setCell ⟨w.heap.size + 1 + 1, 8, none⟩ (.string ⟨#[]⟩)).setCell ⟨w.heap.size + 1 + 1, 9, none⟩ (.slice none 0 0)).setCell ⟨w.heap.size + 1 + 1, 10, none⟩ (.slice none 0 0)).setCell ⟨w.heap.size + 1 + 1, 11, none⟩ (.string ⟨#[]⟩)).alloc (.cells #[(.int .u8 1), (.slice Ap j cp), (.string ⟨#[]⟩), (.int .i64 0), (.int .i64 0), (.int .i64 a.n), (.int .u8 0), (.int .i64 0), (.string ⟨#[]⟩), (.slice none 0 0), (.slice none 0 0), (.string ⟨#[]⟩)] TCMP)) = WZ := ⟨_, rfl⟩
      have hkz : Keep (fun k => k = wr.heap.size ∨ k = w.heap.size + 2) wr WZ := by rw [← hWZ]; exact ((((((((((((((Keep.refl (fun k => k = wr.heap.size ∨ k = w.heap.size + 2) wr).setAt (fun _ => by omega) _ _).setAt (fun _ => by omega) _ _).setAt (fun _ => by omega) _ _).setAt (fun _ => by omega) _ _).setAt (fun _ => by omega) _ _).setAt (fun _ => by omega) _ _).setAt (fun _ => by omega) _ _).setAt (fun _ => by omega) _ _).setAt (fun _ => by omega) _ _).setAt (fun _ => by omega) _ _).setAt (fun _ => by omega) _ _).setAt (fun _ => by omega) _ _).alloc _)
      have hbz : Blk WZ (w.heap.size + 1 + 1) TCMP #[(.int .u8 1), (.slice Ap j cp), (.string ⟨#[]⟩), (.int .i64 0), (.int .i64 0), (.int .i64 a.n), (.int .u8 0), (.int .i64 0), (.string ⟨#[]⟩), (.slice none 0 0), (.slice none 0 0), (.string ⟨#[]⟩)] := by rw [← hWZ]; exact ((set12 HB2J.out rfl (.int .u8 1) (.slice Ap j cp) (.string ⟨#[]⟩) (.int .i64 0) (.int .i64 0) (.int .i64 a.n) (.int .u8 0) (.int .i64 0) (.string ⟨#[]⟩) (.slice none 0 0) (.slice none 0 0) (.string ⟨#[]⟩)).alloc _)
      have HKZ := hid hkz
      have HWZ := hid hWZ
      have HBZ := hid hbz
      clear hWZ hkz hbz
      go_wp2
      rw [HWZ.out]
      obtain ⟨z0, z1, z2, z3, z4, z5, z6, z7, z8, z9, z10, z11⟩ := sq12 HBZ.out
      refine bodyPost_ret (v := .tuple #[.agg #[(.int .u8 1), (.slice Ap j cp), (.string ⟨#[]⟩), (.int .i64 0), (.int .i64 0), (.int .i64 a.n), (.int .u8 0), (.int .i64 0), (.string ⟨#[]⟩), (.slice none 0 0), (.slice none 0 0), (.string ⟨#[]⟩)], .int .i64 1]) (by simp [results, Tryd.results51, go_sem, z0, z1, z2, z3, z4, z5, z6, z7, z8, z9, z10, z11]) rfl ?_
      exact ⟨_, 1, rfl, .inr ⟨rfl, ⟨1, q.take j, ⟨#[]⟩, 0, 0, a.n, ZV, ⟨#[]⟩⟩, ⟨_, _, _, rfl, ((HQJ.out.keep ESt.ok HKZ.out fun k h e => by omega).more ESt.ok fun k _ h => by omega), Sl.nil _ _, Sl.nil _ _⟩, x, HGJ.out, by rw [HQJL.out]; omega, fun s hs => HSO.out s (List.mem_of_mem_take hs), .inl ⟨hkind, a.n, HWN.out, rfl⟩⟩, HF.out _ HKZ.out⟩
     by_cases hkn3 : x.kind.toNat = 3
     ·have hkz : (x.kind.toNat : Int) = 3 := by omega
      have hkind : x.kind = 3 := UInt8.toNat_inj.1 hkn3
      clear hkn3
      have hxs : x.s.size ≤ 100000 := by
       rcases (SV_iff x).1 HSX.out with ⟨h | h | h | h | h | h, _⟩ <;> first | (exact absurd (hkind.symm.trans h.1) (by decide)) | (have := h.2.2.1.2; omega)
      go_wp2_with fail
      have hEY : Ext wr (wr.alloc (.cells #[.int .u8 0, .slice Ap j cp, .string ⟨#[]⟩, .int .i64 0, .int .i64 0, .int .i64 0, .int .u8 0, .int .i64 0, .string ⟨#[]⟩, .slice none 0 0, .slice none 0 0, .string ⟨#[]⟩] TCMP)) := (Keep.refl _ _).alloc _
      have hcb : Blk (wr.alloc (.cells #[.int .u8 0, .slice Ap j cp, .string ⟨#[]⟩, .int .i64 0, .int .i64 0, .int .i64 0, .int .u8 0, .int .i64 0, .string ⟨#[]⟩, .slice none 0 0, .slice none 0 0, .string ⟨#[]⟩] TCMP)) wr.heap.size TCMP #[.int .u8 0, .slice Ap j cp, .string ⟨#[]⟩, .int .i64 0, .int .i64 0, .int .i64 0, .int .u8 0, .int .i64 0, .string ⟨#[]⟩, .slice none 0 0, .slice none 0 0, .string ⟨#[]⟩] := Blk.new _ _ _
      generalize wr.alloc (.cells #[.int .u8 0, .slice Ap j cp, .string ⟨#[]⟩, .int .i64 0, .int .i64 0, .int .i64 0, .int .u8 0, .int .i64 0, .string ⟨#[]⟩, .slice none 0 0, .slice none 0 0, .string ⟨#[]⟩] TCMP) = Y1 at *
      have hszy : wr.heap.size < Y1.heap.size := hcb.lt
      replace HQJ := hid (HQJ.out.ext ESt.ok hEY)
      replace HB2J := hid (HB2J.out.keep hEY id)
      replace HVXJ := hid (HVXJ.out.ext hEY)
      replace HVVJ := hid (HVVJ.out.ext ETok.ok hEY)
      replace HAPJ := hid (HAPJ.out.ext EU8.ok hEY)
      replace HEJ := hid (HEJ.out.ext hEY)
      have HCB := hid hcb
      clear hcb hEY
      refine (text6_ok Y1 _ (.slice Ap j cp) _ a x.s.size hxs ⟨_, _, rfl, HAPJ.out, HVVJ.out⟩ HWI.out HWJ.out ⟨_, _, _, rfl⟩).mono ?_
      rintro e Y2 ⟨kk, i6, n6, s6, rfl, hok, hE9⟩
      have HOK := hid hok
      clear hok
      have HEY2 := hid (HEJ.out.ext hE9)
      replace HCB := hid (HCB.out.keep hE9 id)
      replace HB2J := hid (HB2J.out.keep hE9 id)
      replace HQJ := hid (HQJ.out.ext ESt.ok hE9)
      have hszz := hE9.size
      clear hE9 d0 g0 d1 g1 d2 g2 d3 g3 d4 g4 d5 g5 d6 g6 d7 g7 d8 g8 d9 g9 d10 g10 d11 g11
      obtain ⟨c0, c1, c2, c3, c4, c5, c6, c7, c8, c9, c10, c11⟩ := sq12 HCB.out
      obtain ⟨f0, f1, f2, f3, f4, f5, f6, f7, f8, f9, f10, f11⟩ := sqf12 HCB.out
      obtain ⟨d0, d1, d2, d3, d4, d5, d6, d7, d8, d9, d10, d11⟩ := sq12 HB2J.out
      obtain ⟨g0, g1, g2, g3, g4, g5, g6, g7, g8, g9, g10, g11⟩ := sqf12 HB2J.out
      have HF := hid (fun WZ (hk : Keep (fun k => k = wr.heap.size ∨ k = w.heap.size + 2) Y2 WZ) => HEY2.out.trans hk fun k hk e => by omega)
      obtain ⟨WZ, hWZ⟩ : ∃ WZ, ((((((((((((((((((((((((Y2.setCell ⟨wr.heap.size, 0, none⟩ (.int .u8 (kk.toNat : Int))).setCell ⟨wr.heap.size, 1, none⟩ (.slice Ap j cp)).setCell ⟨wr.heap.size, 2, none⟩ (.string ⟨#[]⟩)).setCell ⟨wr.heap.size, 3, none⟩ (.int .i64 i6)).setCell ⟨wr.heap.size, 4, none⟩ (.int .i64 0)).setCell ⟨wr.heap.size, 5, none⟩ (.int .i64 n6)).setCell ⟨wr.heap.size, 6, none⟩ (.int .u8 0)).setCell ⟨wr.heap.size, 7, none⟩ (.int .i64 0)).setCell ⟨wr.heap.size, 8, none⟩ (.string ⟨#[]⟩)).setCell ⟨wr.heap.size, 9, none⟩ (.slice none 0 0)).setCell ⟨wr.heap.size, 10, none⟩ (.slice none 0 0)).setCell ⟨wr.heap.size, 11, none⟩ (.string s6)).setCell ⟨w.heap.size + 1 + 1, 0, none⟩ (.int .u8 (kk.toNat : Int))).setCell ⟨w.heap.size + 1 + 1, 1, none⟩ (.slice Ap j cp)).setCell ⟨w.heap.size + 1 + 1, 2, none⟩ (.string ⟨#[]⟩)).setCell ⟨w.heap.size + 1 + 1, 3, none⟩ (.int .i64 i6)).setCell ⟨w.heap.size + 1 + 1, 4, none⟩ (.int .i64 0)).setCell ⟨w.heap.size + 1 + 1, 5, none⟩ (.int .i64 n6)).setCell ⟨w.heap.size + 1 + 1, 6, none⟩ (.int .u8 0)).setCell ⟨w.heap.size + 1 + 1, 7, none⟩ (.int .i64 0)).setCell ⟨w.heap.size + 1 + 1, 8, none⟩ (.string ⟨#[]⟩)).setCell ⟨w.heap.size + 1 + 1, 9, none⟩ (.slice none 0 0)).setCell ⟨w.heap.size + 1 + 1, 10, none⟩ (.slice none 0 0)).setCell ⟨w.heap.size + 1 + 1, 11, none⟩ (.string s6)) = WZ := ⟨_, rfl⟩
      have hkz : Keep (fun k => k = wr.heap.size ∨ k = w.heap.size + 2) Y2 WZ := by rw [← hWZ]; exact (((((((((((((((((((((((((Keep.refl (fun k => k = wr.heap.size ∨ k = w.heap.size + 2) Y2).setAt (fun _ => by omega) _ _).setAt (fun _ => by omega) _ _).setAt (fun _ => by omega) _ _).setAt (fun _ => by omega) _ _).setAt (fun _ => by omega) _ _).setAt (fun _ => by omega) _ _).setAt (fun _ => by omega) _ _).setAt (fun _ => by omega) _ _).setAt (fun _ => by omega) _ _).setAt (fun _ => by omega) _ _).setAt (fun _ => by omega) _ _).setAt (fun _ => by omega) _ _).setAt (fun _ => by omega) _ _).setAt (fun _ => by omega) _ _).setAt (fun _ => by omega) _ _).setAt (fun _ => by omega) _ _).setAt (fun _ => by omega) _ _).setAt (fun _ => by omega) _ _).setAt (fun _ => by omega) _ _).setAt (fun _ => by omega) _ _).setAt (fun _ => by omega) _ _).setAt (fun _ => by omega) _ _).setAt (fun _ => by omega) _ _).setAt (fun _ => by omega) _ _)
      have hbz : Blk WZ (w.heap.size + 1 + 1) TCMP #[(.int .u8 (kk.toNat : Int)), (.slice Ap j cp), (.string ⟨#[]⟩), (.int .i64 i6), (.int .i64 0), (.int .i64 n6), (.int .u8 0), (.int .i64 0), (.string ⟨#[]⟩), (.slice none 0 0), (.slice none 0 0), (.string s6)] := by rw [← hWZ]; exact (set12 ((((((((((((HB2J.out.far (fun e => by simp at e; omega) (.int .u8 (kk.toNat : Int))).far (fun e => by simp at e; omega) (.slice Ap j cp)).far (fun e => by simp at e; omega) (.string ⟨#[]⟩)).far (fun e => by simp at e; omega) (.int .i64 i6)).far (fun e => by simp at e; omega) (.int .i64 0)).far (fun e => by simp at e; omega) (.int .i64 n6)).far (fun e => by simp at e; omega) (.int .u8 0)).far (fun e => by simp at e; omega) (.int .i64 0)).far (fun e => by simp at e; omega) (.string ⟨#[]⟩)).far (fun e => by simp at e; omega) (.slice none 0 0)).far (fun e => by simp at e; omega) (.slice none 0 0)).far (fun e => by simp at e; omega) (.string s6)) rfl (.int .u8 (kk.toNat : Int)) (.slice Ap j cp) (.string ⟨#[]⟩) (.int .i64 i6) (.int .i64 0) (.int .i64 n6) (.int .u8 0) (.int .i64 0) (.string ⟨#[]⟩) (.slice none 0 0) (.slice none 0 0) (.string s6))
      have HKZ := hid hkz
      have HWZ := hid hWZ
      have HBZ := hid hbz
      clear hWZ hkz hbz
      go_wp2
      rw [HWZ.out]
      obtain ⟨z0, z1, z2, z3, z4, z5, z6, z7, z8, z9, z10, z11⟩ := sq12 HBZ.out
      refine bodyPost_ret (v := .tuple #[.agg #[(.int .u8 (kk.toNat : Int)), (.slice Ap j cp), (.string ⟨#[]⟩), (.int .i64 i6), (.int .i64 0), (.int .i64 n6), (.int .u8 0), (.int .i64 0), (.string ⟨#[]⟩), (.slice none 0 0), (.slice none 0 0), (.string s6)], .int .i64 1]) (by simp [results, Tryd.results51, go_sem, z0, z1, z2, z3, z4, z5, z6, z7, z8, z9, z10, z11]) rfl ?_
      exact ⟨_, 1, rfl, .inr ⟨rfl, ⟨kk, q.take j, ⟨#[]⟩, i6, 0, n6, ZV, s6⟩, ⟨_, _, _, rfl, ((HQJ.out.keep ESt.ok HKZ.out fun k h e => by omega).more ESt.ok fun k _ h => by omega), Sl.nil _ _, Sl.nil _ _⟩, x, HGJ.out, by rw [HQJL.out]; omega, fun s hs => HSO.out s (List.mem_of_mem_take hs), .inr (.inl ⟨hkind, kk, i6, n6, s6, HOK.out, rfl⟩)⟩, HF.out _ HKZ.out⟩
     by_cases hkn4 : x.kind.toNat = 4
     ·have hkz : (x.kind.toNat : Int) = 4 := by omega
      have hkind : x.kind = 4 := UInt8.toNat_inj.1 hkn4
      clear hkn4
      have hxs : x.l.length ≤ 100000 := by
       have h1 := V.size_eq x
       have h2 := V.sizes_len x.l
       have h3 := HXZ.out
       omega
      go_wp2_with fail
      have hEY : Ext wr (wr.alloc (.cells #[.int .u8 0, .slice Ap j cp, .string ⟨#[]⟩, .int .i64 0, .int .i64 0, .int .i64 0, .int .u8 0, .int .i64 0, .string ⟨#[]⟩, .slice none 0 0, .slice none 0 0, .string ⟨#[]⟩] TCMP)) := (Keep.refl _ _).alloc _
      have hcb : Blk (wr.alloc (.cells #[.int .u8 0, .slice Ap j cp, .string ⟨#[]⟩, .int .i64 0, .int .i64 0, .int .i64 0, .int .u8 0, .int .i64 0, .string ⟨#[]⟩, .slice none 0 0, .slice none 0 0, .string ⟨#[]⟩] TCMP)) wr.heap.size TCMP #[.int .u8 0, .slice Ap j cp, .string ⟨#[]⟩, .int .i64 0, .int .i64 0, .int .i64 0, .int .u8 0, .int .i64 0, .string ⟨#[]⟩, .slice none 0 0, .slice none 0 0, .string ⟨#[]⟩] := Blk.new _ _ _
      generalize wr.alloc (.cells #[.int .u8 0, .slice Ap j cp, .string ⟨#[]⟩, .int .i64 0, .int .i64 0, .int .i64 0, .int .u8 0, .int .i64 0, .string ⟨#[]⟩, .slice none 0 0, .slice none 0 0, .string ⟨#[]⟩] TCMP) = Y1 at *
      have hszy : wr.heap.size < Y1.heap.size := hcb.lt
      replace HQJ := hid (HQJ.out.ext ESt.ok hEY)
      replace HB2J := hid (HB2J.out.keep hEY id)
      replace HVXJ := hid (HVXJ.out.ext hEY)
      replace HVVJ := hid (HVVJ.out.ext ETok.ok hEY)
      replace HAPJ := hid (HAPJ.out.ext EU8.ok hEY)
      replace HEJ := hid (HEJ.out.ext hEY)
      have HCB := hid hcb
      clear hcb hEY
      refine (list6_ok Y1 _ (.slice Ap j cp) _ a x.l.length hxs ⟨_, _, rfl, HAPJ.out, HVVJ.out⟩ HWI.out HWJ.out ⟨_, _, _, rfl⟩).mono ?_
      rintro e Y2 ⟨kk, i6, j6, y6, lv6, ov6, rfl, hok, hl6, ho6, hsv6, hys6, hE9⟩
      obtain ⟨A6, n6, rfl, _⟩ := hl6.shape
      obtain ⟨B6, k6, rfl, _⟩ := ho6.shape
      have HOK := hid hok
      have HLV := hid hl6
      have HOV := hid ho6
      have HS6 := hid hsv6
      have HZ6 := hid hys6
      clear hok hl6 ho6 hsv6 hys6
      have HEY2 := hid (HEJ.out.ext hE9)
      replace HCB := hid (HCB.out.keep hE9 id)
      replace HB2J := hid (HB2J.out.keep hE9 id)
      replace HQJ := hid (HQJ.out.ext ESt.ok hE9)
      have hszz := hE9.size
      clear hE9 d0 g0 d1 g1 d2 g2 d3 g3 d4 g4 d5 g5 d6 g6 d7 g7 d8 g8 d9 g9 d10 g10 d11 g11
      obtain ⟨c0, c1, c2, c3, c4, c5, c6, c7, c8, c9, c10, c11⟩ := sq12 HCB.out
      obtain ⟨f0, f1, f2, f3, f4, f5, f6, f7, f8, f9, f10, f11⟩ := sqf12 HCB.out
      obtain ⟨d0, d1, d2, d3, d4, d5, d6, d7, d8, d9, d10, d11⟩ := sq12 HB2J.out
      obtain ⟨g0, g1, g2, g3, g4, g5, g6, g7, g8, g9, g10, g11⟩ := sqf12 HB2J.out
      have HF := hid (fun WZ (hk : Keep (fun k => k = wr.heap.size ∨ k = w.heap.size + 2) Y2 WZ) => HEY2.out.trans hk fun k hk e => by omega)
      obtain ⟨WZ, hWZ⟩ : ∃ WZ, ((((((((((((((((((((((((Y2.setCell ⟨wr.heap.size, 0, none⟩ (.int .u8 (kk.toNat : Int))).setCell ⟨wr.heap.size, 1, none⟩ (.slice Ap j cp)).setCell ⟨wr.heap.size, 2, none⟩ (.string ⟨#[]⟩)).setCell ⟨wr.heap.size, 3, none⟩ (.int .i64 i6)).setCell ⟨wr.heap.size, 4, none⟩ (.int .i64 j6)).setCell ⟨wr.heap.size, 5, none⟩ (.int .i64 0)).setCell ⟨wr.heap.size, 6, none⟩ (.int .u8 (y6.kind.toNat : Int))).setCell ⟨wr.heap.size, 7, none⟩ (.int .i64 y6.n)).setCell ⟨wr.heap.size, 8, none⟩ (.string y6.s)).setCell ⟨wr.heap.size, 9, none⟩ (.slice A6 y6.l.length n6)).setCell ⟨wr.heap.size, 10, none⟩ (.slice B6 y6.o.length k6)).setCell ⟨wr.heap.size, 11, none⟩ (.string ⟨#[]⟩)).setCell ⟨w.heap.size + 1 + 1, 0, none⟩ (.int .u8 (kk.toNat : Int))).setCell ⟨w.heap.size + 1 + 1, 1, none⟩ (.slice Ap j cp)).setCell ⟨w.heap.size + 1 + 1, 2, none⟩ (.string ⟨#[]⟩)).setCell ⟨w.heap.size + 1 + 1, 3, none⟩ (.int .i64 i6)).setCell ⟨w.heap.size + 1 + 1, 4, none⟩ (.int .i64 j6)).setCell ⟨w.heap.size + 1 + 1, 5, none⟩ (.int .i64 0)).setCell ⟨w.heap.size + 1 + 1, 6, none⟩ (.int .u8 (y6.kind.toNat : Int))).setCell ⟨w.heap.size + 1 + 1, 7, none⟩ (.int .i64 y6.n)).setCell ⟨w.heap.size + 1 + 1, 8, none⟩ (.string y6.s)).setCell ⟨w.heap.size + 1 + 1, 9, none⟩ (.slice A6 y6.l.length n6)).setCell ⟨w.heap.size + 1 + 1, 10, none⟩ (.slice B6 y6.o.length k6)).setCell ⟨w.heap.size + 1 + 1, 11, none⟩ (.string ⟨#[]⟩)) = WZ := ⟨_, rfl⟩
      have hkz : Keep (fun k => k = wr.heap.size ∨ k = w.heap.size + 2) Y2 WZ := by rw [← hWZ]; exact (((((((((((((((((((((((((Keep.refl (fun k => k = wr.heap.size ∨ k = w.heap.size + 2) Y2).setAt (fun _ => by omega) _ _).setAt (fun _ => by omega) _ _).setAt (fun _ => by omega) _ _).setAt (fun _ => by omega) _ _).setAt (fun _ => by omega) _ _).setAt (fun _ => by omega) _ _).setAt (fun _ => by omega) _ _).setAt (fun _ => by omega) _ _).setAt (fun _ => by omega) _ _).setAt (fun _ => by omega) _ _).setAt (fun _ => by omega) _ _).setAt (fun _ => by omega) _ _).setAt (fun _ => by omega) _ _).setAt (fun _ => by omega) _ _).setAt (fun _ => by omega) _ _).setAt (fun _ => by omega) _ _).setAt (fun _ => by omega) _ _).setAt (fun _ => by omega) _ _).setAt (fun _ => by omega) _ _).setAt (fun _ => by omega) _ _).setAt (fun _ => by omega) _ _).setAt (fun _ => by omega) _ _).setAt (fun _ => by omega) _ _).setAt (fun _ => by omega) _ _)
      have hbz : Blk WZ (w.heap.size + 1 + 1) TCMP #[(.int .u8 (kk.toNat : Int)), (.slice Ap j cp), (.string ⟨#[]⟩), (.int .i64 i6), (.int .i64 j6), (.int .i64 0), (.int .u8 (y6.kind.toNat : Int)), (.int .i64 y6.n), (.string y6.s), (.slice A6 y6.l.length n6), (.slice B6 y6.o.length k6), (.string ⟨#[]⟩)] := by rw [← hWZ]; exact (set12 ((((((((((((HB2J.out.far (fun e => by simp at e; omega) (.int .u8 (kk.toNat : Int))).far (fun e => by simp at e; omega) (.slice Ap j cp)).far (fun e => by simp at e; omega) (.string ⟨#[]⟩)).far (fun e => by simp at e; omega) (.int .i64 i6)).far (fun e => by simp at e; omega) (.int .i64 j6)).far (fun e => by simp at e; omega) (.int .i64 0)).far (fun e => by simp at e; omega) (.int .u8 (y6.kind.toNat : Int))).far (fun e => by simp at e; omega) (.int .i64 y6.n)).far (fun e => by simp at e; omega) (.string y6.s)).far (fun e => by simp at e; omega) (.slice A6 y6.l.length n6)).far (fun e => by simp at e; omega) (.slice B6 y6.o.length k6)).far (fun e => by simp at e; omega) (.string ⟨#[]⟩)) rfl (.int .u8 (kk.toNat : Int)) (.slice Ap j cp) (.string ⟨#[]⟩) (.int .i64 i6) (.int .i64 j6) (.int .i64 0) (.int .u8 (y6.kind.toNat : Int)) (.int .i64 y6.n) (.string y6.s) (.slice A6 y6.l.length n6) (.slice B6 y6.o.length k6) (.string ⟨#[]⟩))
      have HKZ := hid hkz
      have HWZ := hid hWZ
      have HBZ := hid hbz
      clear hWZ hkz hbz
      go_wp2
      rw [HWZ.out]
      obtain ⟨z0, z1, z2, z3, z4, z5, z6, z7, z8, z9, z10, z11⟩ := sq12 HBZ.out
      refine bodyPost_ret (v := .tuple #[.agg #[(.int .u8 (kk.toNat : Int)), (.slice Ap j cp), (.string ⟨#[]⟩), (.int .i64 i6), (.int .i64 j6), (.int .i64 0), (.int .u8 (y6.kind.toNat : Int)), (.int .i64 y6.n), (.string y6.s), (.slice A6 y6.l.length n6), (.slice B6 y6.o.length k6), (.string ⟨#[]⟩)], .int .i64 1]) (by simp [results, Tryd.results51, go_sem, z0, z1, z2, z3, z4, z5, z6, z7, z8, z9, z10, z11]) rfl ?_
      exact ⟨_, 1, rfl, .inr ⟨rfl, ⟨kk, q.take j, ⟨#[]⟩, i6, j6, 0, y6, ⟨#[]⟩⟩, ⟨_, _, _, rfl, ((HQJ.out.keep ESt.ok HKZ.out fun k h e => by omega).more ESt.ok fun k _ h => by omega), ((HLV.out.keep EVal.ok HKZ.out fun k h e => by omega).more EVal.ok fun k _ h => by omega), ((HOV.out.keep EField.ok HKZ.out fun k h e => by omega).more EField.ok fun k _ h => by omega)⟩, x, HGJ.out, by rw [HQJL.out]; omega, fun s hs => HSO.out s (List.mem_of_mem_take hs), .inr (.inr (.inl ⟨hkind, kk, i6, j6, y6, HOK.out, HS6.out, HZ6.out, rfl⟩))⟩, HF.out _ HKZ.out⟩
     by_cases hkn5 : x.kind.toNat = 5
     ·have hkz : (x.kind.toNat : Int) = 5 := by omega
      have hkind : x.kind = 5 := UInt8.toNat_inj.1 hkn5
      clear hkn5
      go_wp2_with fail
      have hEY : Ext wr (wr.alloc (.cells #[.int .u8 0, .slice Ap j cp, .string ⟨#[]⟩, .int .i64 0, .int .i64 0, .int .i64 0, .int .u8 0, .int .i64 0, .string ⟨#[]⟩, .slice none 0 0, .slice none 0 0, .string ⟨#[]⟩] TCMP)) := (Keep.refl _ _).alloc _
      have hcb : Blk (wr.alloc (.cells #[.int .u8 0, .slice Ap j cp, .string ⟨#[]⟩, .int .i64 0, .int .i64 0, .int .i64 0, .int .u8 0, .int .i64 0, .string ⟨#[]⟩, .slice none 0 0, .slice none 0 0, .string ⟨#[]⟩] TCMP)) wr.heap.size TCMP #[.int .u8 0, .slice Ap j cp, .string ⟨#[]⟩, .int .i64 0, .int .i64 0, .int .i64 0, .int .u8 0, .int .i64 0, .string ⟨#[]⟩, .slice none 0 0, .slice none 0 0, .string ⟨#[]⟩] := Blk.new _ _ _
      generalize wr.alloc (.cells #[.int .u8 0, .slice Ap j cp, .string ⟨#[]⟩, .int .i64 0, .int .i64 0, .int .i64 0, .int .u8 0, .int .i64 0, .string ⟨#[]⟩, .slice none 0 0, .slice none 0 0, .string ⟨#[]⟩] TCMP) = Y1 at *
      have hszy : wr.heap.size < Y1.heap.size := hcb.lt
      replace HQJ := hid (HQJ.out.ext ESt.ok hEY)
      replace HB2J := hid (HB2J.out.keep hEY id)
      replace HVXJ := hid (HVXJ.out.ext hEY)
      replace HVVJ := hid (HVVJ.out.ext ETok.ok hEY)
      replace HAPJ := hid (HAPJ.out.ext EU8.ok hEY)
      replace HEJ := hid (HEJ.out.ext hEY)
      have HCB := hid hcb
      clear hcb hEY
      have hxa : VAt Y1 (fun k => k ≠ bx) (.agg #[U8 5, .int .i64 x.n, .string x.s, .slice A5 x.l.length n5, .slice B5 x.o.length k5]) x := by
       have h := HVXJ.out
       rw [hkind] at h
       exact h
      refine (field6_ok Y1 _ _ (.slice Ap j cp) _ _ a x hxa HSX.out HXZ.out ⟨_, _, rfl, HAPJ.out, HVVJ.out⟩ HWI.out ⟨_, _, _, rfl⟩).mono ?_
      rintro e Y2 ⟨kk, key6, y6, lv6, ov6, rfl, hok, hl6, ho6, hsv6, hys6, hE9⟩
      clear hxa
      obtain ⟨A6, n6, rfl, _⟩ := hl6.shape
      obtain ⟨B6, k6, rfl, _⟩ := ho6.shape
      have HOK := hid hok
      have HLV := hid hl6
      have HOV := hid ho6
      have HS6 := hid hsv6
      have HZ6 := hid hys6
      clear hok hl6 ho6 hsv6 hys6
      have HEY2 := hid (HEJ.out.ext hE9)
      replace HCB := hid (HCB.out.keep hE9 id)
      replace HB2J := hid (HB2J.out.keep hE9 id)
      replace HQJ := hid (HQJ.out.ext ESt.ok hE9)
      have hszz := hE9.size
      clear hE9 d0 g0 d1 g1 d2 g2 d3 g3 d4 g4 d5 g5 d6 g6 d7 g7 d8 g8 d9 g9 d10 g10 d11 g11
      obtain ⟨c0, c1, c2, c3, c4, c5, c6, c7, c8, c9, c10, c11⟩ := sq12 HCB.out
      obtain ⟨f0, f1, f2, f3, f4, f5, f6, f7, f8, f9, f10, f11⟩ := sqf12 HCB.out
      obtain ⟨d0, d1, d2, d3, d4, d5, d6, d7, d8, d9, d10, d11⟩ := sq12 HB2J.out
      obtain ⟨g0, g1, g2, g3, g4, g5, g6, g7, g8, g9, g10, g11⟩ := sqf12 HB2J.out
      have HF := hid (fun WZ (hk : Keep (fun k => k = wr.heap.size ∨ k = w.heap.size + 2) Y2 WZ) => HEY2.out.trans hk fun k hk e => by omega)
      obtain ⟨WZ, hWZ⟩ : ∃ WZ, ((((((((((((((((((((((((Y2.setCell ⟨wr.heap.size, 0, none⟩ (.int .u8 (kk.toNat : Int))).setCell ⟨wr.heap.size, 1, none⟩ (.slice Ap j cp)).setCell ⟨wr.heap.size, 2, none⟩ (.string key6)).setCell ⟨wr.heap.size, 3, none⟩ (.int .i64 0)).setCell ⟨wr.heap.size, 4, none⟩ (.int .i64 0)).setCell ⟨wr.heap.size, 5, none⟩ (.int .i64 0)).setCell ⟨wr.heap.size, 6, none⟩ (.int .u8 (y6.kind.toNat : Int))).setCell ⟨wr.heap.size, 7, none⟩ (.int .i64 y6.n)).setCell ⟨wr.heap.size, 8, none⟩ (.string y6.s)).setCell ⟨wr.heap.size, 9, none⟩ (.slice A6 y6.l.length n6)).setCell ⟨wr.heap.size, 10, none⟩ (.slice B6 y6.o.length k6)).setCell ⟨wr.heap.size, 11, none⟩ (.string ⟨#[]⟩)).setCell ⟨w.heap.size + 1 + 1, 0, none⟩ (.int .u8 (kk.toNat : Int))).setCell ⟨w.heap.size + 1 + 1, 1, none⟩ (.slice Ap j cp)).setCell ⟨w.heap.size + 1 + 1, 2, none⟩ (.string key6)).setCell ⟨w.heap.size + 1 + 1, 3, none⟩ (.int .i64 0)).setCell ⟨w.heap.size + 1 + 1, 4, none⟩ (.int .i64 0)).setCell ⟨w.heap.size + 1 + 1, 5, none⟩ (.int .i64 0)).setCell ⟨w.heap.size + 1 + 1, 6, none⟩ (.int .u8 (y6.kind.toNat : Int))).setCell ⟨w.heap.size + 1 + 1, 7, none⟩ (.int .i64 y6.n)).setCell ⟨w.heap.size + 1 + 1, 8, none⟩ (.string y6.s)).setCell ⟨w.heap.size + 1 + 1, 9, none⟩ (.slice A6 y6.l.length n6)).setCell ⟨w.heap.size + 1 + 1, 10, none⟩ (.slice B6 y6.o.length k6)).setCell ⟨w.heap.size + 1 + 1, 11, none⟩ (.string ⟨#[]⟩)) = WZ := ⟨_, rfl⟩
      have hkz : Keep (fun k => k = wr.heap.size ∨ k = w.heap.size + 2) Y2 WZ := by rw [← hWZ]; exact (((((((((((((((((((((((((Keep.refl (fun k => k = wr.heap.size ∨ k = w.heap.size + 2) Y2).setAt (fun _ => by omega) _ _).setAt (fun _ => by omega) _ _).setAt (fun _ => by omega) _ _).setAt (fun _ => by omega) _ _).setAt (fun _ => by omega) _ _).setAt (fun _ => by omega) _ _).setAt (fun _ => by omega) _ _).setAt (fun _ => by omega) _ _).setAt (fun _ => by omega) _ _).setAt (fun _ => by omega) _ _).setAt (fun _ => by omega) _ _).setAt (fun _ => by omega) _ _).setAt (fun _ => by omega) _ _).setAt (fun _ => by omega) _ _).setAt (fun _ => by omega) _ _).setAt (fun _ => by omega) _ _).setAt (fun _ => by omega) _ _).setAt (fun _ => by omega) _ _).setAt (fun _ => by omega) _ _).setAt (fun _ => by omega) _ _).setAt (fun _ => by omega) _ _).setAt (fun _ => by omega) _ _).setAt (fun _ => by omega) _ _).setAt (fun _ => by omega) _ _)
      have hbz : Blk WZ (w.heap.size + 1 + 1) TCMP #[(.int .u8 (kk.toNat : Int)), (.slice Ap j cp), (.string key6), (.int .i64 0), (.int .i64 0), (.int .i64 0), (.int .u8 (y6.kind.toNat : Int)), (.int .i64 y6.n), (.string y6.s), (.slice A6 y6.l.length n6), (.slice B6 y6.o.length k6), (.string ⟨#[]⟩)] := by rw [← hWZ]; exact (set12 ((((((((((((HB2J.out.far (fun e => by simp at e; omega) (.int .u8 (kk.toNat : Int))).far (fun e => by simp at e; omega) (.slice Ap j cp)).far (fun e => by simp at e; omega) (.string key6)).far (fun e => by simp at e; omega) (.int .i64 0)).far (fun e => by simp at e; omega) (.int .i64 0)).far (fun e => by simp at e; omega) (.int .i64 0)).far (fun e => by simp at e; omega) (.int .u8 (y6.kind.toNat : Int))).far (fun e => by simp at e; omega) (.int .i64 y6.n)).far (fun e => by simp at e; omega) (.string y6.s)).far (fun e => by simp at e; omega) (.slice A6 y6.l.length n6)).far (fun e => by simp at e; omega) (.slice B6 y6.o.length k6)).far (fun e => by simp at e; omega) (.string ⟨#[]⟩)) rfl (.int .u8 (kk.toNat : Int)) (.slice Ap j cp) (.string key6) (.int .i64 0) (.int .i64 0) (.int .i64 0) (.int .u8 (y6.kind.toNat : Int)) (.int .i64 y6.n) (.string y6.s) (.slice A6 y6.l.length n6) (.slice B6 y6.o.length k6) (.string ⟨#[]⟩))
      have HKZ := hid hkz
      have HWZ := hid hWZ
      have HBZ := hid hbz
      clear hWZ hkz hbz
      go_wp2
      rw [HWZ.out]
      obtain ⟨z0, z1, z2, z3, z4, z5, z6, z7, z8, z9, z10, z11⟩ := sq12 HBZ.out
      refine bodyPost_ret (v := .tuple #[.agg #[(.int .u8 (kk.toNat : Int)), (.slice Ap j cp), (.string key6), (.int .i64 0), (.int .i64 0), (.int .i64 0), (.int .u8 (y6.kind.toNat : Int)), (.int .i64 y6.n), (.string y6.s), (.slice A6 y6.l.length n6), (.slice B6 y6.o.length k6), (.string ⟨#[]⟩)], .int .i64 1]) (by simp [results, Tryd.results51, go_sem, z0, z1, z2, z3, z4, z5, z6, z7, z8, z9, z10, z11]) rfl ?_
      exact ⟨_, 1, rfl, .inr ⟨rfl, ⟨kk, q.take j, key6, 0, 0, 0, y6, ⟨#[]⟩⟩, ⟨_, _, _, rfl, ((HQJ.out.keep ESt.ok HKZ.out fun k h e => by omega).more ESt.ok fun k _ h => by omega), ((HLV.out.keep EVal.ok HKZ.out fun k h e => by omega).more EVal.ok fun k _ h => by omega), ((HOV.out.keep EField.ok HKZ.out fun k h e => by omega).more EField.ok fun k _ h => by omega)⟩, x, HGJ.out, by rw [HQJL.out]; omega, fun s hs => HSO.out s (List.mem_of_mem_take hs), .inr (.inr (.inr ⟨hkind, kk, key6, y6, HOK.out, HS6.out, HZ6.out, rfl⟩))⟩, HF.out _ HKZ.out⟩
     by_cases hkn0 : x.kind.toNat = 0
     ·have hkz : (x.kind.toNat : Int) = 0 := by omega
      have hkind : x.kind = 0 := UInt8.toNat_inj.1 hkn0
      clear hkn0
      first
      | (exfalso; omega)
      | skip
        have HF := fun WZ (hk : Keep (fun k => k = wr.heap.size ∨ k = w.heap.size + 2) wr WZ) => HEJ.out.trans hk fun k hk e => by omega
        have HF := hid HF
        obtain ⟨WZ, hWZ⟩ : ∃ WZ, (((((((((((((wr.setCell ⟨w.heap.size + 1 + 1, 0, none⟩ (.int .u8 0)).setCell ⟨w.heap.size + 1 + 1, 1, none⟩ (.slice Ap j cp)).setCell ⟨w.heap.size + 1 + 1, 2, none⟩ (.string ⟨#[]⟩)).setCell ⟨w.heap.size + 1 + 1, 3, none⟩ (.int .i64 0)).setCell ⟨w.heap.size + 1 + 1, 4, none⟩ (.int .i64 0)).setCell ⟨w.heap.size + 1 + 1, 5, none⟩ (.int .i64 0)).setCell ⟨w.heap.size + 1 + 1, 6, none⟩ (.int .u8 0)).setCell ⟨w.heap.size + 1 + 1, 7, none⟩ (.int .i64 0)).setCell ⟨w.heap.size + 1 + 1, 8, none⟩ (.string ⟨#[]⟩)).setCell ⟨w.heap.size + 1 + 1, 9, none⟩ (.slice none 0 0)).setCell ⟨w.heap.size + 1 + 1, 10, none⟩ (.slice none 0 0)).setCell ⟨w.heap.size + 1 + 1, 11, none⟩ (.string ⟨#[]⟩)).alloc (.cells #[(.int .u8 0), (.slice Ap j cp), (.string ⟨#[]⟩), (.int .i64 0), (.int .i64 0), (.int .i64 0), (.int .u8 0), (.int .i64 0), (.string ⟨#[]⟩), (.slice none 0 0), (.slice none 0 0), (.string ⟨#[]⟩)] TCMP)) = WZ := ⟨_, rfl⟩
        have hkz : Keep (fun k => k = wr.heap.size ∨ k = w.heap.size + 2) wr WZ := by rw [← hWZ]; exact ((((((((((((((Keep.refl (fun k => k = wr.heap.size ∨ k = w.heap.size + 2) wr).setAt (fun _ => by omega) _ _).setAt (fun _ => by omega) _ _).setAt (fun _ => by omega) _ _).setAt (fun _ => by omega) _ _).setAt (fun _ => by omega) _ _).setAt (fun _ => by omega) _ _).setAt (fun _ => by omega) _ _).setAt (fun _ => by omega) _ _).setAt (fun _ => by omega) _ _).setAt (fun _ => by omega) _ _).setAt (fun _ => by omega) _ _).setAt (fun _ => by omega) _ _).alloc _)
        have hbz : Blk WZ (w.heap.size + 1 + 1) TCMP #[(.int .u8 0), (.slice Ap j cp), (.string ⟨#[]⟩), (.int .i64 0), (.int .i64 0), (.int .i64 0), (.int .u8 0), (.int .i64 0), (.string ⟨#[]⟩), (.slice none 0 0), (.slice none 0 0), (.string ⟨#[]⟩)] := by rw [← hWZ]; exact ((set12 HB2J.out rfl (.int .u8 0) (.slice Ap j cp) (.string ⟨#[]⟩) (.int .i64 0) (.int .i64 0) (.int .i64 0) (.int .u8 0) (.int .i64 0) (.string ⟨#[]⟩) (.slice none 0 0) (.slice none 0 0) (.string ⟨#[]⟩)).alloc _)
        have HKZ := hid hkz
        have HWZ := hid hWZ
        have HBZ := hid hbz
        clear hWZ hkz hbz
        go_wp2
        rw [HWZ.out]
        obtain ⟨z0, z1, z2, z3, z4, z5, z6, z7, z8, z9, z10, z11⟩ := sq12 HBZ.out
        refine bodyPost_ret (v := .tuple #[.agg #[(.int .u8 0), (.slice Ap j cp), (.string ⟨#[]⟩), (.int .i64 0), (.int .i64 0), (.int .i64 0), (.int .u8 0), (.int .i64 0), (.string ⟨#[]⟩), (.slice none 0 0), (.slice none 0 0), (.string ⟨#[]⟩)], .int .i64 0]) (by simp [results, Tryd.results51, go_sem, z0, z1, z2, z3, z4, z5, z6, z7, z8, z9, z10, z11]) rfl ?_
        exact ⟨_, 0, rfl, .inl ⟨rfl, _, _, _, _, _, _, _, _, _, _, _, _, _, _, _, _, _, _, rfl⟩, HF.out _ HKZ.out⟩
     by_cases hkn1 : x.kind.toNat = 1
     ·have hkz : (x.kind.toNat : Int) = 1 := by omega
      have hkind : x.kind = 1 := UInt8.toNat_inj.1 hkn1
      clear hkn1
      first
      | (exfalso; omega)
      | skip
        have HF := fun WZ (hk : Keep (fun k => k = wr.heap.size ∨ k = w.heap.size + 2) wr WZ) => HEJ.out.trans hk fun k hk e => by omega
        have HF := hid HF
        obtain ⟨WZ, hWZ⟩ : ∃ WZ, (((((((((((((wr.setCell ⟨w.heap.size + 1 + 1, 0, none⟩ (.int .u8 0)).setCell ⟨w.heap.size + 1 + 1, 1, none⟩ (.slice Ap j cp)).setCell ⟨w.heap.size + 1 + 1, 2, none⟩ (.string ⟨#[]⟩)).setCell ⟨w.heap.size + 1 + 1, 3, none⟩ (.int .i64 0)).setCell ⟨w.heap.size + 1 + 1, 4, none⟩ (.int .i64 0)).setCell ⟨w.heap.size + 1 + 1, 5, none⟩ (.int .i64 0)).setCell ⟨w.heap.size + 1 + 1, 6, none⟩ (.int .u8 0)).setCell ⟨w.heap.size + 1 + 1, 7, none⟩ (.int .i64 0)).setCell ⟨w.heap.size + 1 + 1, 8, none⟩ (.string ⟨#[]⟩)).setCell ⟨w.heap.size + 1 + 1, 9, none⟩ (.slice none 0 0)).setCell ⟨w.heap.size + 1 + 1, 10, none⟩ (.slice none 0 0)).setCell ⟨w.heap.size + 1 + 1, 11, none⟩ (.string ⟨#[]⟩)).alloc (.cells #[(.int .u8 0), (.slice Ap j cp), (.string ⟨#[]⟩), (.int .i64 0), (.int .i64 0), (.int .i64 0), (.int .u8 0), (.int .i64 0), (.string ⟨#[]⟩), (.slice none 0 0), (.slice none 0 0), (.string ⟨#[]⟩)] TCMP)) = WZ := ⟨_, rfl⟩
        have hkz : Keep (fun k => k = wr.heap.size ∨ k = w.heap.size + 2) wr WZ := by rw [← hWZ]; exact ((((((((((((((Keep.refl (fun k => k = wr.heap.size ∨ k = w.heap.size + 2) wr).setAt (fun _ => by omega) _ _).setAt (fun _ => by omega) _ _).setAt (fun _ => by omega) _ _).setAt (fun _ => by omega) _ _).setAt (fun _ => by omega) _ _).setAt (fun _ => by omega) _ _).setAt (fun _ => by omega) _ _).setAt (fun _ => by omega) _ _).setAt (fun _ => by omega) _ _).setAt (fun _ => by omega) _ _).setAt (fun _ => by omega) _ _).setAt (fun _ => by omega) _ _).alloc _)
        have hbz : Blk WZ (w.heap.size + 1 + 1) TCMP #[(.int .u8 0), (.slice Ap j cp), (.string ⟨#[]⟩), (.int .i64 0), (.int .i64 0), (.int .i64 0), (.int .u8 0), (.int .i64 0), (.string ⟨#[]⟩), (.slice none 0 0), (.slice none 0 0), (.string ⟨#[]⟩)] := by rw [← hWZ]; exact ((set12 HB2J.out rfl (.int .u8 0) (.slice Ap j cp) (.string ⟨#[]⟩) (.int .i64 0) (.int .i64 0) (.int .i64 0) (.int .u8 0) (.int .i64 0) (.string ⟨#[]⟩) (.slice none 0 0) (.slice none 0 0) (.string ⟨#[]⟩)).alloc _)
        have HKZ := hid hkz
        have HWZ := hid hWZ
        have HBZ := hid hbz
        clear hWZ hkz hbz
        go_wp2
        rw [HWZ.out]
        obtain ⟨z0, z1, z2, z3, z4, z5, z6, z7, z8, z9, z10, z11⟩ := sq12 HBZ.out
        refine bodyPost_ret (v := .tuple #[.agg #[(.int .u8 0), (.slice Ap j cp), (.string ⟨#[]⟩), (.int .i64 0), (.int .i64 0), (.int .i64 0), (.int .u8 0), (.int .i64 0), (.string ⟨#[]⟩), (.slice none 0 0), (.slice none 0 0), (.string ⟨#[]⟩)], .int .i64 0]) (by simp [results, Tryd.results51, go_sem, z0, z1, z2, z3, z4, z5, z6, z7, z8, z9, z10, z11]) rfl ?_
        exact ⟨_, 0, rfl, .inl ⟨rfl, _, _, _, _, _, _, _, _, _, _, _, _, _, _, _, _, _, _, rfl⟩, HF.out _ HKZ.out⟩
     omega
end Go.Proofs.YtggkidnlmaindaaDoor
