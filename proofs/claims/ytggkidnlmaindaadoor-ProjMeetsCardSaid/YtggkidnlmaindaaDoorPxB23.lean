/- Do6D: laid together. -/
import Derived.Test.YtggkidnlmaindaaDoorPxB16
import Derived.Test.YtggkidnlmaindaaDoorPxB22
import Derived.Test.YtggkidnlmaindaaDoorPxB7
set_option linter.unusedSimpArgs false
set_option linter.unusedVariables false
set_option maxHeartbeats 25600000
set_option maxRecDepth 20000
namespace Go.Proofs.YtggkidnlmaindaaDoor
open Go.RowKit
def geB (a b : ByteArray) : Bool := !Op.bytesLess a.toList b.toList
def fldR (f : F) : Bool → List F → List F
 | dn, [] => if dn = true then [] else [f]
 | dn, y :: ys => (if (!dn && geB y.key f.key) = true then [f] else []) ++ ((if (y.key.toList == f.key.toList) = true then [] else [y]) ++ fldR f (dn || geB y.key f.key) ys)
abbrev FD (S : BS) (a b : Nat) : BS := fun k => (S k ∧ k < a) ∨ (a ≤ k ∧ k < b)
theorem FD.lt {S : BS} {a b k : Nat} (h : FD S a b k) (hab : a ≤ b) : k < b := by rcases h with h | h <;> omega
structure FldAt (w : World) (D : BS) (base b7 bc : Nat) (cc : Array Value) (f : F) (fc : List Value) (ov : Value) (o : List F) (X : World) : Prop where
 ext : Ext w X
 box : Blk X bc TCMP cc
 fb : Blk X b7 TFIELD fc.toArray
 fd : EField.rd X D fc f
 os : Sl EField X D ov o
 hD : ∀ k, D k → k < base
 hbc : bc < base
 hb7 : b7 < base
 hbase : base ≤ X.heap.size
 hw : w.heap.size ≤ base
theorem FldAt.keep {w X X' : World} {D : BS} {base b7 bc : Nat} {cc : Array Value} {f : F} {fc : List Value} {ov : Value} {o : List F} {Fr : Nat → Prop} (h : FldAt w D base b7 bc cc f fc ov o X) (hk : Keep Fr X X') (hF : ∀ k, k < base → ¬ Fr k) : FldAt w D base b7 bc cc f fc ov o X' :=
 ⟨h.ext.trans hk fun k hk' e => hF k (by have := h.hw; omega) e, h.box.keep hk (hF _ h.hbc), h.fb.keep hk (hF _ h.hb7), EField.ok.keep h.fd hk fun k hk' => hF k (h.hD k hk'), h.os.keep EField.ok hk fun k hk' => hF k (h.hD k hk'), h.hD, h.hbc, h.hb7, Nat.le_trans h.hbase hk.size, h.hw⟩
def ValB (B : Nat) (x : V) (n m : Nat) (v : Value) (w : World) : Prop := B ≤ n ∧ VIs w (fun k => n ≤ k ∧ k < m) v x
theorem ValB.ext {B n m : Nat} {x : V} {v : Value} {w w' : World} (h : ValB B x n m v w) (he : Ext w w') : ValB B x n m v w' := ⟨h.1, h.2.ext he⟩
def BoxF (B n m : Nat) (v : Value) (w : World) : Prop := B ≤ n ∧ m = n + 1 ∧ v = .pointer (some ⟨n, 0, none⟩) ∧ ∃ a b c d e f, Blk w n TFIELD #[a, b, c, d, e, f]
theorem BoxF.ext {B n m : Nat} {v : Value} {w w' : World} (h : BoxF B n m v w) (he : Ext w w') : BoxF B n m v w' := by
 obtain ⟨h1, h2, h3, a, b, c, d, e, f, h4⟩ := h
 exact ⟨h1, h2, h3, a, b, c, d, e, f, h4.keep he id⟩
def FieldsIs (S : BS) (w : World) (l : List F) (e : Ending) (w' : World) : Prop := ∃ v base, e = .returned v ∧ w.heap.size ≤ base ∧ Own EField w' base TFIELD (FD S w.heap.size base) v l ∧ Ext w w'
theorem fields6_ok (w : World) (S S2 : BS) (ov t : Value) (o : List F) (c : Cp) (ho : Sl EField w S ov o) (hc : CAt w S2 t c) (hn : o.length ≤ 100000) (hz : c.v.size ≤ 1000000) :
  Calls Tryd.prog 71 #[ov, t] w (FieldsIs S w (fldR (.mk c.key c.v) (c.kind.toNat == 3) o)) := by
 have ho := ho.more EField.ok (S' := fun k => S k ∧ k < w.heap.size) fun k h h2 => ⟨h2, h⟩
 obtain ⟨pv, lv, ov2, rfl, h1, h2, h3⟩ := hc.cut
 obtain ⟨Ap, cp, rfl, _⟩ := h1.shape
 obtain ⟨Al, cl, rfl, _⟩ := h2.shape
 obtain ⟨Ao, co, rfl, _⟩ := h3.shape
 obtain ⟨Bo, bo, rfl, hob, hbm⟩ := ho.shape
 unfold maxLen at hbm
 obtain ⟨W, hW⟩ : ∃ W, (w.alloc (.cells (cC c Ap cp Al cl Ao co) TCMP)) = W := ⟨_, rfl⟩
 have hE : Ext w W := by rw [← hW]; exact (Keep.refl _ _).alloc _
 have hb : Blk W w.heap.size TCMP (cC c Ap cp Al cl Ao co) := by rw [← hW]; exact Blk.new _ _ _
 have hsz : W.heap.size = w.heap.size + 1 := by rw [← hW]; simp
 have HV := hid (show VAt W (fun k => k < w.heap.size) (.agg (vC c.v Al cl Ao co)) c.v from ⟨_, _, rfl, ((h2.more (S' := fun k => k < w.heap.size) EVal.ok fun k _ h => h.2).ext EVal.ok hE), ((h3.more (S' := fun k => k < w.heap.size) EField.ok fun k _ h => h.2).ext EField.ok hE)⟩)
 have HO := hid (ho.ext EField.ok hE)
 have HE := hid hE
 have HB := hid hb
 have HSZ := hid hsz
 obtain ⟨dn, hdn⟩ : ∃ dn, (c.kind.toNat == 3) = dn := ⟨_, rfl⟩
 have hkd : ((c.kind.toNat : Int) == 3) = dn := by rw [← hdn]; cases h : (c.kind.toNat == 3) <;> simp at h ⊢ <;> omega
 rw [hdn]
 obtain ⟨n, hnl⟩ : ∃ n, o.length = n := ⟨_, rfl⟩
 have HN := hid hnl
 rw [hnl] at HO hn hob ⊢
 obtain ⟨x0, x1, x2, x3, x4, x5, x6, x7, x8, x9, x10, x11⟩ := sq12 hb
 clear h1 h2 h3 ho hE hb hsz hdn hnl hc
 go_enter Tryd.func71, Tryd.ntmps71
 go_wp2_with fail
 refine H.wp_region_parts [] [0, 1, 2, 3, 4, 5, 6] [7] (H.specOf [(4, ValB W.heap.size c.v), (6, BoxF W.heap.size)]) (fun w' => Ext W w') (H.stable_cons (fun n m v w w' h he => h.ext he) (H.stable_cons (fun n m v w w' h he => h.ext he) H.stable_nil)) (H.stableC_ext _) (by kernel_rfl) (by kernel_rfl) (Keep.drew (Keep.refl _ _)) ?_
 refine H.pure_nil ?_
 iterate 4
  (try simp only [Act.put, sqa, sqb, sqc])
  refine H.growP_run rfl rfl rfl ?_
  apply Exists.intro
  refine ⟨fun w' hC hK => ?_, ?_⟩
  ·have x2 := sqw hC x2
   have x6 := sqw hC x6
   have x7 := sqw hC x7
   have x8 := sqw hC x8
   have x9 := sqw hC x9
   have x10 := sqw hC x10
   go_simp
   rfl
 (try simp only [Act.put, sqa, sqb, sqc])
 refine H.growP_eff rfl rfl rfl (fun w' hC hK => ?_) (fun v4 nv4 mv4 hv4 => ?_)
 ·unfold H.growAt
  go_simp
  refine H.grow_call ((rcopy_any _ c.v (Nat.le_refl _) hz _ _ _ (HV.out.ext hC)).mono ?_)
  intro e w'' h
  obtain ⟨u', rfl, h1, h2⟩ := h.at_
  exact ⟨_, rfl, h2, hC.size, .of (h1.more fun k hk h => ⟨h, hk⟩)⟩
 obtain ⟨_, _, _, Cl, ml, Co, mo, rfl, _⟩ := hv4.head
 iterate 1
  (try simp only [Act.put, sqa, sqb, sqc])
  refine H.growP_run rfl rfl rfl ?_
  apply Exists.intro
  refine ⟨fun w' hC hK => ?_, ?_⟩
  ·go_simp
   rfl
 (try simp only [Act.put, sqa, sqb, sqc])
 refine H.growP_eff rfl rfl rfl (fun w' hC hK => ?_) (fun v6 nv6 mv6 hv6 => ?_)
 ·unfold H.growAt
  go_simp
  exact ⟨(Keep.refl _ _).alloc _, hC.size, by simp, by rfl, _, _, _, _, _, _, Blk.new _ _ _⟩
 obtain ⟨_, _, _, hnm, rfl, _⟩ := hv6.head
 refine H.growP_nil fun wz hC hK => ?_
 obtain ⟨_, A5, m5, B5, k5, e5, r1, r2⟩ : ValB W.heap.size c.v nv4 mv4 (.agg (vC c.v Cl ml Co mo)) wz := (hK.1 (4, _) (List.mem_cons_of_mem _ List.mem_cons_self)).1
 obtain ⟨hb6, hm6, _, a0, a1, a2, a3, a4, a5, hbx⟩ : BoxF W.heap.size nv6 mv6 (.pointer (some ⟨nv6, 0, none⟩)) wz := (hK.1 (6, _) List.mem_cons_self).1
 have hin : mv4 ≤ nv6 ∨ mv6 ≤ nv4 := hK.2 (4, _) (List.mem_cons_of_mem _ List.mem_cons_self) (6, _) List.mem_cons_self (by simp)
 simp only [Value.agg.injEq] at e5
 simp at e5
 obtain ⟨⟨rfl, rfl⟩, rfl, rfl⟩ := e5
 have hC : Ext W wz := hC
 have hbz := hbx.lt
 obtain ⟨X, hX⟩ : ∃ X, ((((((wz.setCell ⟨nv6, 0, none⟩ (.string c.key)).setCell ⟨nv6, 1, none⟩ (.int .u8 (c.v.kind.toNat : Int))).setCell ⟨nv6, 2, none⟩ (.int .i64 c.v.n)).setCell ⟨nv6, 3, none⟩ (.string c.v.s)).setCell ⟨nv6, 4, none⟩ (.slice Cl c.v.l.length ml)).setCell ⟨nv6, 5, none⟩ (.slice Co c.v.o.length mo)) = X := ⟨_, rfl⟩
 have hkx : Keep (· = nv6) wz X := by rw [← hX]; exact (((((((Keep.refl (· = nv6) wz).set1 0 _).set1 1 _).set1 2 _).set1 3 _).set1 4 _).set1 5 _)
 have hfb : Blk X nv6 TFIELD #[(.string c.key), (.int .u8 (c.v.kind.toNat : Int)), (.int .i64 c.v.n), (.string c.v.s), (.slice Cl c.v.l.length ml), (.slice Co c.v.o.length mo)] := by
  rw [← hX]
  exact (((((hbx.set_ 0 (.string c.key)).set_ 1 (U8 c.v.kind)).set_ 2 (.int .i64 c.v.n)).set_ 3 (.string c.v.s)).set_ 4 (.slice Cl c.v.l.length ml)).set_ 5 (.slice Co c.v.o.length mo)
 have hws := HSZ.out
 have hCz := hC.size
 have hfd : EField.rd X (FD S w.heap.size wz.heap.size) [.string c.key, .int .u8 (c.v.kind.toNat : Int), .int .i64 c.v.n, .string c.v.s, .slice Cl c.v.l.length ml, .slice Co c.v.o.length mo] (.mk c.key c.v) := rdF_iff.2 ⟨_, rfl, VAt.rd ⟨_, _, rfl, ((r1.more (S' := fun k => (nv4 ≤ k ∧ k < mv4) ∧ k < wz.heap.size) EVal.ok fun k h1 h2 => ⟨h2, h1⟩).keep EVal.ok hkx fun k h e => by omega).more EVal.ok fun k _ h => .inr ⟨by omega, h.2⟩, ((r2.more (S' := fun k => (nv4 ≤ k ∧ k < mv4) ∧ k < wz.heap.size) EField.ok fun k h1 h2 => ⟨h2, h1⟩).keep EField.ok hkx fun k h e => by omega).more EField.ok fun k _ h => .inr ⟨by omega, h.2⟩⟩⟩
 have hEC := HE.out.ext hC
 have hFA : FldAt w (FD S w.heap.size wz.heap.size) wz.heap.size nv6 w.heap.size (cC c Ap cp Al cl Ao co) (.mk c.key c.v) [.string c.key, .int .u8 (c.v.kind.toNat : Int), .int .i64 c.v.n, .string c.v.s, .slice Cl c.v.l.length ml, .slice Co c.v.o.length mo] (.slice Bo n bo) o X :=
  ⟨hEC.trans hkx fun k hk e => by omega, (HB.out.keep hC id).keep hkx (by omega), hfb, hfd, (HO.out.ext EField.ok hC).keep EField.ok hkx (fun k h e => by have := h.2; omega) |>.more EField.ok (fun k _ h => .inl h), (fun k h => h.lt (by omega)), by omega, by omega, hkx.size, hEC.size⟩
 have HFA := hid hFA
 have HWZ := hid hEC.size
 have HX := hid hX
 have z0 := hbx.cell 0
 have z1 := hbx.cell 1
 have z2 := hbx.cell 2
 have z3 := hbx.cell 3
 have z4 := hbx.cell 4
 have z5 := hbx.cell 5
 have g0 := hbx.frozen 0
 have g1 := hbx.frozen 1
 have g2 := hbx.frozen 2
 have g3 := hbx.frozen 3
 have g4 := hbx.frozen 4
 have g5 := hbx.frozen 5
 simp at z0 z1 z2 z3 z4 z5
 clear r1 r2 hbx hkx hfb hfd hEC hFA hX hC hK hin hbz hCz hws HV HO HE HB HSZ hW x0 x1 x2 x3 x4 x5 x6 x7 x8 x9 x10 x11
 change wpList _ _ _ (_ :: []) _ _
 (try simp only [Act.put, sqa, sqb, sqc])
 go_wp2_with fail
 refine NoPanic.normal ?_
 rw [HX.out]
 clear HX z0 z1 z2 z3 z4 z5 g0 g1 g2 g3 g4 g5
 go_wp2_with fail
 go_loopw [5, 6, 8] (fun v d i wr => ∃ (j : Nat) (dj : Bool) (xs : List F), j ≤ n ∧ i = .int .i64 j ∧ d = .bool dj ∧ xs ++ fldR (.mk c.key c.v) dj (o.drop j) = fldR (.mk c.key c.v) dn o ∧ xs.length ≤ 2 * j ∧ Own EField wr wz.heap.size TFIELD (FD S w.heap.size wz.heap.size) v xs ∧ FldAt w (FD S w.heap.size wz.heap.size) wz.heap.size nv6 w.heap.size (cC c Ap cp Al cl Ao co) (.mk c.key c.v) [.string c.key, .int .u8 (c.v.kind.toNat : Int), .int .i64 c.v.n, .string c.v.s, .slice Cl c.v.l.length ml, .slice Co c.v.o.length mo] (.slice Bo n bo) o wr) (fun _ _ i _ => n - (intOf i).toNat)
 case atStart => exact ⟨0, dn, [], by omega, rfl, rfl, rfl, by simp, Own.nil _ _ _ _, HFA.out⟩
 case round =>
  obtain ⟨j, dj, xs, hj, rfl, rfl, hxs, hlen, hown, hF⟩ := hrel
  have HXS := hid hxs
  have HLEN := hid hlen
  have HOW := hid hown
  have HF := hid hF
  obtain ⟨A, cA, rfl, hlA, hcA⟩ := hown.shape
  unfold maxLen at hcA
  have x2 := hF.box.cell 2
  have x0 := hF.box.cell 0
  simp at x0 x2
  have hlen9 : xs.length ≤ 200000 := by omega
  clear hxs hlen hown hF HFA
  by_cases hlt : j < n
  ·have hX : (j : Int) < n := by omega
   have hj' : j < o.length := by rw [HN.out]; exact hlt
   obtain ⟨b1, o1, c1, rfl, hb1, _, hrd, hc1⟩ := HF.out.os.at_ EField.ok hj'
   have HDR := hid (List.drop_eq_getElem_cons hj')
   generalize o[j] = y at *
   have HRD := hid hrd
   obtain ⟨cv, rfl, hrv⟩ := rdF_iff.1 hrd
   obtain ⟨ly, oy, rfl, hly, hoy⟩ := rdV_iff.1 hrv
   have y0 := hc1 0 _ rfl
   have y1 := hc1 1 _ rfl
   have y2 := hc1 2 _ rfl
   have y3 := hc1 3 _ rfl
   have y4 := hc1 4 _ rfl
   have y5 := hc1 5 _ rfl
   have e6 : EField.size = 6 := rfl
   simp only [e6, Nat.add_zero] at y0 y1 y2 y3 y4 y5
   have HB1 := hid hb1
   obtain ⟨Ay, cy, rfl, _⟩ := hly.shape
   obtain ⟨Oy, dy, rfl, _⟩ := hoy.shape
   have HRDwr := hid (fun (X : World) (h : Ext wr X) => EField.ok.keep HRD.out h fun _ _ h => h)
   clear hc1 e6 hrd hrv hly hoy hb1
   have HOwr := hid HOW.out
   have HFwr := hid HF.out
   cases dj with
   | true =>
    go_wp2_with fail
    refine wp_region_grow (specOf []) (fun w' => Ext wr w') stable_nil (stableC_ext _) (by kernel_rfl) (by kernel_rfl) (Keep.drew (Keep.refl _ _)) ?_
    iterate 3
     (try simp only [Act.put, sqa, sqb, sqc])
     refine grow_run rfl rfl rfl ?_
     apply Exists.intro
     refine ⟨fun w' hC hK => ?_, ?_⟩
     ·go_simp
      rfl
    iterate 8
     (try simp only [Act.put, sqa, sqb, sqc])
     with_reducible refine grow_skip ?_ ?_ ?_
     ·rfl
     ·rfl
    iterate 1
     (try simp only [Act.put, sqa, sqb, sqc])
     refine grow_run rfl rfl rfl ?_
     apply Exists.intro
     refine ⟨fun w' hC hK => ?_, ?_⟩
     ·go_simp
      rfl
    refine grow_nil fun w7 hC hK => ?_
    have hC : Ext wr w7 := hC
    have HOw7 := hid (HOW.out.ext EField.ok hC)
    have HFw7 := hid (HF.out.keep hC fun _ _ h => h)
    have HRDw7 := hid (fun (X : World) (h : Ext w7 X) => HRDwr.out X (hC.ext h))
    replace y0 := sqw hC y0
    replace y1 := sqw hC y1
    replace y2 := sqw hC y2
    replace y3 := sqw hC y3
    replace y4 := sqw hC y4
    replace y5 := sqw hC y5
    clear hC hK x2
    have x2 := HFw7.out.box.cell 2
    simp at x2
    cases hke : (y.key.toList == c.key.toList) with
    | true =>
     have HKE := hid (show (y.key.toList == (F.mk c.key c.v).key.toList) = true from hke)
     go_wp2_with fail
     refine wp_region_grow (specOf []) (fun w' => Ext w7 w') stable_nil (stableC_ext _) (by kernel_rfl) (by kernel_rfl) (Keep.drew (Keep.refl _ _)) ?_
     iterate 8
      (try simp only [Act.put, sqa, sqb, sqc])
      refine grow_run rfl rfl rfl ?_
      apply Exists.intro
      refine ⟨fun w' hC hK => ?_, ?_⟩
      ·have y0 := sqw hC y0
       have x2 := sqw hC x2
       go_simp
       rfl
     refine grow_nil fun wE hC hK => ?_
     have HC := hid (show Ext w7 wE from hC)
     clear hC hK
     go_wp2
     exact ⟨⟨j + 1, true, xs, by omega, by go_num, rfl, by rw [← HXS.out, HDR.out]; simp only [fldR, HKE.out, Bool.not_true, Bool.false_and, Bool.true_or]; simp, by have := HLEN.out; omega, HOw7.out.ext EField.ok HC.out, HFw7.out.keep HC.out fun _ _ h => h⟩, by simp [intOf]; omega⟩
    | false =>
     have HKE := hid (show (y.key.toList == (F.mk c.key c.v).key.toList) = false from hke)
     go_wp2_with fail
     refine wp_region_grow (specOf []) (fun w' => Ext w7 w') stable_nil (stableC_ext _) (by kernel_rfl) (by kernel_rfl) (Keep.drew (Keep.refl _ _)) ?_
     iterate 8
      (try simp only [Act.put, sqa, sqb, sqc])
      refine grow_run rfl rfl rfl ?_
      apply Exists.intro
      refine ⟨fun w' hC hK => ?_, ?_⟩
      ·have y0 := sqw hC y0
       have x2 := sqw hC x2
       go_simp
       rfl
     refine grow_nil fun wE hC hK => ?_
     have hC : Ext w7 wE := hC
     have HOwE := hid (HOw7.out.ext EField.ok hC)
     have HFwE := hid (HFw7.out.keep hC fun _ _ h => h)
     have HYE := hid (hC.size)
     replace y0 := sqw hC y0
     replace y1 := sqw hC y1
     replace y2 := sqw hC y2
     replace y3 := sqw hC y3
     replace y4 := sqw hC y4
     replace y5 := sqw hC y5
     have hrE := HRDw7.out _ hC
     have HRE := hid hrE
     clear hC hK hrE
     have HObg := hid (HOwE.out.ext EField.ok ((Keep.refl (fun _ => False) wE).alloc (.cells #[.string y.key, U8 y.v.kind, .int .i64 y.v.n, .string y.v.s, .slice Ay y.v.l.length cy, .slice Oy y.v.o.length dy] TFIELD)))
     have HRxg := hid (RowS.new (w := wE) (t := TFIELD) (sz := 6) (n := 1) (cs := [.string y.key, U8 y.v.kind, .int .i64 y.v.n, .string y.v.s, .slice Ay y.v.l.length cy, .slice Oy y.v.o.length dy]) rfl (by simp [maxLen]) (0, 0))
     have HDxg := hid (Cells.single (E := EField) (x := y) (EField.ok.keep HRE.out ((Keep.refl (fun _ => False) wE).alloc (.cells #[.string y.key, U8 y.v.kind, .int .i64 y.v.n, .string y.v.s, .slice Ay y.v.l.length cy, .slice Oy y.v.o.length dy] TFIELD)) fun _ _ h => h))
     go_wp2_with (at_builtin; refine wpList_own_append2 (ys := [y]) _ rfl (.tmp 48) (.tmp 53) EField.ok ty_field rfl rfl rfl HObg.out HRxg.out HDxg.out ?d1 ?d2 ?d3 ?d4 ?_)
     case d1 => intro g hg; have := HOwE.out.lt hg; first | exact ⟨fun h => by have := h.lt HWZ.out; omega, fun h => by have := h.lt HWZ.out; omega⟩ | (have h7 := HWZ.out; exact ⟨fun _ => by omega, fun _ => by omega⟩) | omega
     case d2 => first | omega | (simp only [List.length_append, List.length_singleton]; omega)
     case d3 => first | omega | (simp only [List.length_append, List.length_singleton, maxLen]; omega)
     case d4 => have := HFwE.out.hbase; first | omega | (rw [World.size_alloc]; omega)
     intro vg wG hown hk _
     have hown : Own EField wG wz.heap.size TFIELD (FD S w.heap.size wz.heap.size) vg (xs ++ [y]) := by first | exact hown | exact own_orF hown | (rw [List.append_assoc]; exact hown) | (rw [List.append_assoc]; exact own_orF hown)
     obtain ⟨Ag, cg, rfl, hlg, hcg⟩ := hown.shape
     unfold maxLen at hcg
     rw [show (xs ++ [y]).length = xs.length + 1 from by simp] at hown hlg ⊢
     have hk2 : Keep (fun k => Value.ownBlock (.slice A xs.length cA) = some k) wE wG := (Keep.alloc (Keep.refl (fun k => Value.ownBlock (.slice A xs.length cA) = some k) wE) _).trans hk fun k _ e => e
     have HOwG := hid hown
     have HFwG := hid (HFwE.out.keep hk2 fun k hk e => by have := (HOwE.out.lt e).1; omega)
     clear hown hk hk2
     go_wp2
     exact ⟨⟨j + 1, true, xs ++ [y], by omega, by go_num, rfl, by rw [← HXS.out, HDR.out]; simp only [fldR, HKE.out, Bool.not_true, Bool.false_and, Bool.true_or]; simp, by have := HLEN.out; simp only [List.length_append, List.length_singleton]; omega, HOwG.out, HFwG.out⟩, by simp [intOf]; omega⟩
   | false =>
    cases hge : geB y.key c.key with
    | true =>
     have HGE := hid (show geB y.key (F.mk c.key c.v).key = true from hge)
     have hge' : Op.bytesLess y.key.toList c.key.toList = false := by unfold geB at hge; simpa using hge
     clear hge
     go_wp2_with fail
     refine wp_region_grow (specOf []) (fun w' => Ext wr w') stable_nil (stableC_ext _) (by kernel_rfl) (by kernel_rfl) (Keep.drew (Keep.refl _ _)) ?_
     iterate 12
      (try simp only [Act.put, sqa, sqb, sqc])
      refine grow_run rfl rfl rfl ?_
      apply Exists.intro
      refine ⟨fun w' hC hK => ?_, ?_⟩
      ·have y0 := sqw hC y0
       have x2 := sqw hC x2
       go_simp
       rfl
     refine grow_nil fun w7 hC hK => ?_
     have hC : Ext wr w7 := hC
     have HOw7 := hid (HOW.out.ext EField.ok hC)
     have HFw7 := hid (HF.out.keep hC fun _ _ h => h)
     have HRDw7 := hid (fun (X : World) (h : Ext w7 X) => HRDwr.out X (hC.ext h))
     replace y0 := sqw hC y0
     replace y1 := sqw hC y1
     replace y2 := sqw hC y2
     replace y3 := sqw hC y3
     replace y4 := sqw hC y4
     replace y5 := sqw hC y5
     clear hC hK x2
     have f0 := HFw7.out.fb.cell 0
     have f1 := HFw7.out.fb.cell 1
     have f2 := HFw7.out.fb.cell 2
     have f3 := HFw7.out.fb.cell 3
     have f4 := HFw7.out.fb.cell 4
     have f5 := HFw7.out.fb.cell 5
     simp at f0 f1 f2 f3 f4 f5
     have HObf := hid (HOw7.out.ext EField.ok ((Keep.refl (fun _ => False) w7).alloc (.cells #[.string c.key, .int .u8 (c.v.kind.toNat : Int), .int .i64 c.v.n, .string c.v.s, .slice Cl c.v.l.length ml, .slice Co c.v.o.length mo] TFIELD)))
     have HRxf := hid (RowS.new (w := w7) (t := TFIELD) (sz := 6) (n := 1) (cs := [.string c.key, .int .u8 (c.v.kind.toNat : Int), .int .i64 c.v.n, .string c.v.s, .slice Cl c.v.l.length ml, .slice Co c.v.o.length mo]) rfl (by simp [maxLen]) (0, 0))
     have HDxf := hid (Cells.single (E := EField) (x := F.mk c.key c.v) (EField.ok.keep HFw7.out.fd ((Keep.refl (fun _ => False) w7).alloc (.cells #[.string c.key, .int .u8 (c.v.kind.toNat : Int), .int .i64 c.v.n, .string c.v.s, .slice Cl c.v.l.length ml, .slice Co c.v.o.length mo] TFIELD)) fun _ _ h => h))
     go_wp2_with (at_builtin; refine wpList_own_append2 (ys := [F.mk c.key c.v]) _ rfl (.tmp 36) (.tmp 38) EField.ok ty_field rfl rfl rfl HObf.out HRxf.out HDxf.out ?d1 ?d2 ?d3 ?d4 ?_)
     case d1 => intro g hg; have := HOw7.out.lt hg; first | exact ⟨fun h => by have := h.lt HWZ.out; omega, fun h => by have := h.lt HWZ.out; omega⟩ | (have h7 := HWZ.out; exact ⟨fun _ => by omega, fun _ => by omega⟩) | omega
     case d2 => first | omega | (simp only [List.length_append, List.length_singleton]; omega)
     case d3 => first | omega | (simp only [List.length_append, List.length_singleton, maxLen]; omega)
     case d4 => have := HFw7.out.hbase; first | omega | (rw [World.size_alloc]; omega)
     intro vf w8 hown hk _
     have hown : Own EField w8 wz.heap.size TFIELD (FD S w.heap.size wz.heap.size) vf (xs ++ [F.mk c.key c.v]) := by first | exact hown | exact own_orF hown | (rw [List.append_assoc]; exact hown) | (rw [List.append_assoc]; exact own_orF hown)
     obtain ⟨Af, cf, rfl, hlf, hcf⟩ := hown.shape
     unfold maxLen at hcf
     rw [show (xs ++ [F.mk c.key c.v]).length = xs.length + 1 from by simp] at hown hlf ⊢
     have hk2 : Keep (fun k => Value.ownBlock (.slice A xs.length cA) = some k) w7 w8 := (Keep.alloc (Keep.refl (fun k => Value.ownBlock (.slice A xs.length cA) = some k) w7) _).trans hk fun k _ e => e
     have HOw8 := hid hown
     have HFw8 := hid (HFw7.out.keep hk2 fun k hk e => by have := (HOw7.out.lt e).1; omega)
     replace y0 := (hk2.cell (lt_of_cell y0) (fun e => by have h8 : wz.heap.size ≤ b1 := (HOw7.out.lt e).1; have h9 : b1 < wz.heap.size := FD.lt HB1.out HWZ.out; omega)).trans y0
     replace y1 := (hk2.cell (lt_of_cell y1) (fun e => by have h8 : wz.heap.size ≤ b1 := (HOw7.out.lt e).1; have h9 : b1 < wz.heap.size := FD.lt HB1.out HWZ.out; omega)).trans y1
     replace y2 := (hk2.cell (lt_of_cell y2) (fun e => by have h8 : wz.heap.size ≤ b1 := (HOw7.out.lt e).1; have h9 : b1 < wz.heap.size := FD.lt HB1.out HWZ.out; omega)).trans y2
     replace y3 := (hk2.cell (lt_of_cell y3) (fun e => by have h8 : wz.heap.size ≤ b1 := (HOw7.out.lt e).1; have h9 : b1 < wz.heap.size := FD.lt HB1.out HWZ.out; omega)).trans y3
     replace y4 := (hk2.cell (lt_of_cell y4) (fun e => by have h8 : wz.heap.size ≤ b1 := (HOw7.out.lt e).1; have h9 : b1 < wz.heap.size := FD.lt HB1.out HWZ.out; omega)).trans y4
     replace y5 := (hk2.cell (lt_of_cell y5) (fun e => by have h8 : wz.heap.size ≤ b1 := (HOw7.out.lt e).1; have h9 : b1 < wz.heap.size := FD.lt HB1.out HWZ.out; omega)).trans y5
     have HRDw8 := hid (fun (X : World) (h : Ext w8 X) => EField.ok.keep (EField.ok.keep (HRDw7.out _ (Keep.refl _ _)) hk2 fun k hk e => by have := (HOw7.out.lt e).1; have := FD.lt hk HWZ.out; omega) h fun _ _ h => h)
     clear hown hk hk2 f0 f1 f2 f3 f4 f5
     have x2 := HFw8.out.box.cell 2
     simp at x2
     cases hke : (y.key.toList == c.key.toList) with
     | true =>
      have HKE := hid (show (y.key.toList == (F.mk c.key c.v).key.toList) = true from hke)
      go_wp2_with fail
      refine wp_region_grow (specOf []) (fun w' => Ext w8 w') stable_nil (stableC_ext _) (by kernel_rfl) (by kernel_rfl) (Keep.drew (Keep.refl _ _)) ?_
      iterate 8
       (try simp only [Act.put, sqa, sqb, sqc])
       refine grow_run rfl rfl rfl ?_
       apply Exists.intro
       refine ⟨fun w' hC hK => ?_, ?_⟩
       ·have y0 := sqw hC y0
        have x2 := sqw hC x2
        go_simp
        rfl
      refine grow_nil fun wE hC hK => ?_
      have HC := hid (show Ext w8 wE from hC)
      clear hC hK
      go_wp2
      exact ⟨⟨j + 1, true, (xs ++ [F.mk c.key c.v]), by omega, by go_num, rfl, by rw [← HXS.out, HDR.out]; simp only [fldR, HKE.out, HGE.out, Bool.not_false, Bool.true_and, Bool.false_or]; simp, by have := HLEN.out; simp only [List.length_append, List.length_singleton]; omega, HOw8.out.ext EField.ok HC.out, HFw8.out.keep HC.out fun _ _ h => h⟩, by simp [intOf]; omega⟩
     | false =>
      have HKE := hid (show (y.key.toList == (F.mk c.key c.v).key.toList) = false from hke)
      go_wp2_with fail
      refine wp_region_grow (specOf []) (fun w' => Ext w8 w') stable_nil (stableC_ext _) (by kernel_rfl) (by kernel_rfl) (Keep.drew (Keep.refl _ _)) ?_
      iterate 8
       (try simp only [Act.put, sqa, sqb, sqc])
       refine grow_run rfl rfl rfl ?_
       apply Exists.intro
       refine ⟨fun w' hC hK => ?_, ?_⟩
       ·have y0 := sqw hC y0
        have x2 := sqw hC x2
        go_simp
        rfl
      refine grow_nil fun wE hC hK => ?_
      have hC : Ext w8 wE := hC
      have HOwE := hid (HOw8.out.ext EField.ok hC)
      have HFwE := hid (HFw8.out.keep hC fun _ _ h => h)
      have HYE := hid (hC.size)
      replace y0 := sqw hC y0
      replace y1 := sqw hC y1
      replace y2 := sqw hC y2
      replace y3 := sqw hC y3
      replace y4 := sqw hC y4
      replace y5 := sqw hC y5
      have hrE := HRDw8.out _ hC
      have HRE := hid hrE
      clear hC hK hrE
      have HObg := hid (HOwE.out.ext EField.ok ((Keep.refl (fun _ => False) wE).alloc (.cells #[.string y.key, U8 y.v.kind, .int .i64 y.v.n, .string y.v.s, .slice Ay y.v.l.length cy, .slice Oy y.v.o.length dy] TFIELD)))
      have HRxg := hid (RowS.new (w := wE) (t := TFIELD) (sz := 6) (n := 1) (cs := [.string y.key, U8 y.v.kind, .int .i64 y.v.n, .string y.v.s, .slice Ay y.v.l.length cy, .slice Oy y.v.o.length dy]) rfl (by simp [maxLen]) (0, 0))
      have HDxg := hid (Cells.single (E := EField) (x := y) (EField.ok.keep HRE.out ((Keep.refl (fun _ => False) wE).alloc (.cells #[.string y.key, U8 y.v.kind, .int .i64 y.v.n, .string y.v.s, .slice Ay y.v.l.length cy, .slice Oy y.v.o.length dy] TFIELD)) fun _ _ h => h))
      go_wp2_with (at_builtin; refine wpList_own_append2 (ys := [y]) _ rfl (.tmp 48) (.tmp 53) EField.ok ty_field rfl rfl rfl HObg.out HRxg.out HDxg.out ?d1 ?d2 ?d3 ?d4 ?_)
      case d1 => intro g hg; have := HOwE.out.lt hg; first | exact ⟨fun h => by have := h.lt HWZ.out; omega, fun h => by have := h.lt HWZ.out; omega⟩ | (have h7 := HWZ.out; exact ⟨fun _ => by omega, fun _ => by omega⟩) | omega
      case d2 => first | omega | (simp only [List.length_append, List.length_singleton]; omega)
      case d3 => first | omega | (simp only [List.length_append, List.length_singleton, maxLen]; omega)
      case d4 => have := HFwE.out.hbase; first | omega | (rw [World.size_alloc]; omega)
      intro vg wG hown hk _
      have hown : Own EField wG wz.heap.size TFIELD (FD S w.heap.size wz.heap.size) vg ((xs ++ [F.mk c.key c.v]) ++ [y]) := by first | exact hown | exact own_orF hown | (rw [List.append_assoc]; exact hown) | (rw [List.append_assoc]; exact own_orF hown)
      obtain ⟨Ag, cg, rfl, hlg, hcg⟩ := hown.shape
      unfold maxLen at hcg
      rw [show ((xs ++ [F.mk c.key c.v]) ++ [y]).length = xs.length + 1 + 1 from by simp] at hown hlg ⊢
      have hk2 : Keep (fun k => Value.ownBlock (.slice Af (xs.length + 1) cf) = some k) wE wG := (Keep.alloc (Keep.refl (fun k => Value.ownBlock (.slice Af (xs.length + 1) cf) = some k) wE) _).trans hk fun k _ e => e
      have HOwG := hid hown
      have HFwG := hid (HFwE.out.keep hk2 fun k hk e => by have := (HOwE.out.lt e).1; omega)
      clear hown hk hk2
      go_wp2
      exact ⟨⟨j + 1, true, (xs ++ [F.mk c.key c.v]) ++ [y], by omega, by go_num, rfl, by rw [← HXS.out, HDR.out]; simp only [fldR, HKE.out, HGE.out, Bool.not_false, Bool.true_and, Bool.false_or]; simp, by have := HLEN.out; simp only [List.length_append, List.length_singleton]; omega, HOwG.out, HFwG.out⟩, by simp [intOf]; omega⟩
    | false =>
     have HGE := hid (show geB y.key (F.mk c.key c.v).key = false from hge)
     have hge' : Op.bytesLess y.key.toList c.key.toList = true := by unfold geB at hge; simpa using hge
     clear hge
     go_wp2_with fail
     refine wp_region_grow (specOf []) (fun w' => Ext wr w') stable_nil (stableC_ext _) (by kernel_rfl) (by kernel_rfl) (Keep.drew (Keep.refl _ _)) ?_
     iterate 12
      (try simp only [Act.put, sqa, sqb, sqc])
      refine grow_run rfl rfl rfl ?_
      apply Exists.intro
      refine ⟨fun w' hC hK => ?_, ?_⟩
      ·have y0 := sqw hC y0
       have x2 := sqw hC x2
       go_simp
       rfl
     refine grow_nil fun w7 hC hK => ?_
     have hC : Ext wr w7 := hC
     have HOw7 := hid (HOW.out.ext EField.ok hC)
     have HFw7 := hid (HF.out.keep hC fun _ _ h => h)
     have HRDw7 := hid (fun (X : World) (h : Ext w7 X) => HRDwr.out X (hC.ext h))
     replace y0 := sqw hC y0
     replace y1 := sqw hC y1
     replace y2 := sqw hC y2
     replace y3 := sqw hC y3
     replace y4 := sqw hC y4
     replace y5 := sqw hC y5
     clear hC hK x2
     have x2 := HFw7.out.box.cell 2
     simp at x2
     cases hke : (y.key.toList == c.key.toList) with
     | true =>
      have HKE := hid (show (y.key.toList == (F.mk c.key c.v).key.toList) = true from hke)
      go_wp2_with fail
      refine wp_region_grow (specOf []) (fun w' => Ext w7 w') stable_nil (stableC_ext _) (by kernel_rfl) (by kernel_rfl) (Keep.drew (Keep.refl _ _)) ?_
      iterate 8
       (try simp only [Act.put, sqa, sqb, sqc])
       refine grow_run rfl rfl rfl ?_
       apply Exists.intro
       refine ⟨fun w' hC hK => ?_, ?_⟩
       ·have y0 := sqw hC y0
        have x2 := sqw hC x2
        go_simp
        rfl
      refine grow_nil fun wE hC hK => ?_
      have HC := hid (show Ext w7 wE from hC)
      clear hC hK
      go_wp2
      exact ⟨⟨j + 1, false, xs, by omega, by go_num, rfl, by rw [← HXS.out, HDR.out]; simp only [fldR, HKE.out, HGE.out, Bool.not_false, Bool.true_and, Bool.false_or, Bool.and_false]; simp, by have := HLEN.out; omega, HOw7.out.ext EField.ok HC.out, HFw7.out.keep HC.out fun _ _ h => h⟩, by simp [intOf]; omega⟩
     | false =>
      have HKE := hid (show (y.key.toList == (F.mk c.key c.v).key.toList) = false from hke)
      go_wp2_with fail
      refine wp_region_grow (specOf []) (fun w' => Ext w7 w') stable_nil (stableC_ext _) (by kernel_rfl) (by kernel_rfl) (Keep.drew (Keep.refl _ _)) ?_
      iterate 8
       (try simp only [Act.put, sqa, sqb, sqc])
       refine grow_run rfl rfl rfl ?_
       apply Exists.intro
       refine ⟨fun w' hC hK => ?_, ?_⟩
       ·have y0 := sqw hC y0
        have x2 := sqw hC x2
        go_simp
        rfl
      refine grow_nil fun wE hC hK => ?_
      have hC : Ext w7 wE := hC
      have HOwE := hid (HOw7.out.ext EField.ok hC)
      have HFwE := hid (HFw7.out.keep hC fun _ _ h => h)
      have HYE := hid (hC.size)
      replace y0 := sqw hC y0
      replace y1 := sqw hC y1
      replace y2 := sqw hC y2
      replace y3 := sqw hC y3
      replace y4 := sqw hC y4
      replace y5 := sqw hC y5
      have hrE := HRDw7.out _ hC
      have HRE := hid hrE
      clear hC hK hrE
      have HObg := hid (HOwE.out.ext EField.ok ((Keep.refl (fun _ => False) wE).alloc (.cells #[.string y.key, U8 y.v.kind, .int .i64 y.v.n, .string y.v.s, .slice Ay y.v.l.length cy, .slice Oy y.v.o.length dy] TFIELD)))
      have HRxg := hid (RowS.new (w := wE) (t := TFIELD) (sz := 6) (n := 1) (cs := [.string y.key, U8 y.v.kind, .int .i64 y.v.n, .string y.v.s, .slice Ay y.v.l.length cy, .slice Oy y.v.o.length dy]) rfl (by simp [maxLen]) (0, 0))
      have HDxg := hid (Cells.single (E := EField) (x := y) (EField.ok.keep HRE.out ((Keep.refl (fun _ => False) wE).alloc (.cells #[.string y.key, U8 y.v.kind, .int .i64 y.v.n, .string y.v.s, .slice Ay y.v.l.length cy, .slice Oy y.v.o.length dy] TFIELD)) fun _ _ h => h))
      go_wp2_with (at_builtin; refine wpList_own_append2 (ys := [y]) _ rfl (.tmp 48) (.tmp 53) EField.ok ty_field rfl rfl rfl HObg.out HRxg.out HDxg.out ?d1 ?d2 ?d3 ?d4 ?_)
      case d1 => intro g hg; have := HOwE.out.lt hg; first | exact ⟨fun h => by have := h.lt HWZ.out; omega, fun h => by have := h.lt HWZ.out; omega⟩ | (have h7 := HWZ.out; exact ⟨fun _ => by omega, fun _ => by omega⟩) | omega
      case d2 => first | omega | (simp only [List.length_append, List.length_singleton]; omega)
      case d3 => first | omega | (simp only [List.length_append, List.length_singleton, maxLen]; omega)
      case d4 => have := HFwE.out.hbase; first | omega | (rw [World.size_alloc]; omega)
      intro vg wG hown hk _
      have hown : Own EField wG wz.heap.size TFIELD (FD S w.heap.size wz.heap.size) vg (xs ++ [y]) := by first | exact hown | exact own_orF hown | (rw [List.append_assoc]; exact hown) | (rw [List.append_assoc]; exact own_orF hown)
      obtain ⟨Ag, cg, rfl, hlg, hcg⟩ := hown.shape
      unfold maxLen at hcg
      rw [show (xs ++ [y]).length = xs.length + 1 from by simp] at hown hlg ⊢
      have hk2 : Keep (fun k => Value.ownBlock (.slice A xs.length cA) = some k) wE wG := (Keep.alloc (Keep.refl (fun k => Value.ownBlock (.slice A xs.length cA) = some k) wE) _).trans hk fun k _ e => e
      have HOwG := hid hown
      have HFwG := hid (HFwE.out.keep hk2 fun k hk e => by have := (HOwE.out.lt e).1; omega)
      clear hown hk hk2
      go_wp2
      exact ⟨⟨j + 1, false, xs ++ [y], by omega, by go_num, rfl, by rw [← HXS.out, HDR.out]; simp only [fldR, HKE.out, HGE.out, Bool.not_false, Bool.true_and, Bool.false_or, Bool.and_false]; simp, by have := HLEN.out; simp only [List.length_append, List.length_singleton]; omega, HOwG.out, HFwG.out⟩, by simp [intOf]; omega⟩
  ·obtain rfl : j = n := by omega
   have hX : ¬ (j : Int) < j := by omega
   have HOwr := hid HOW.out
   have HFwr := hid HF.out
   have HDN := hid (show o.drop j = [] from List.drop_of_length_le (by rw [HN.out]; exact Nat.le_refl _))
   cases dj with
   | true =>
    go_wp2
    go_ret
    exact ⟨_, _, rfl, HF.out.hw, by rw [← HXS.out, HDN.out]; simp only [fldR, if_true, List.append_nil]; exact HOW.out, HF.out.ext⟩
   | false =>
    have f0 := HFwr.out.fb.cell 0
    have f1 := HFwr.out.fb.cell 1
    have f2 := HFwr.out.fb.cell 2
    have f3 := HFwr.out.fb.cell 3
    have f4 := HFwr.out.fb.cell 4
    have f5 := HFwr.out.fb.cell 5
    simp at f0 f1 f2 f3 f4 f5
    have HObf := hid (HOwr.out.ext EField.ok ((Keep.refl (fun _ => False) wr).alloc (.cells #[.string c.key, .int .u8 (c.v.kind.toNat : Int), .int .i64 c.v.n, .string c.v.s, .slice Cl c.v.l.length ml, .slice Co c.v.o.length mo] TFIELD)))
    have HRxf := hid (RowS.new (w := wr) (t := TFIELD) (sz := 6) (n := 1) (cs := [.string c.key, .int .u8 (c.v.kind.toNat : Int), .int .i64 c.v.n, .string c.v.s, .slice Cl c.v.l.length ml, .slice Co c.v.o.length mo]) rfl (by simp [maxLen]) (0, 0))
    have HDxf := hid (Cells.single (E := EField) (x := F.mk c.key c.v) (EField.ok.keep HFwr.out.fd ((Keep.refl (fun _ => False) wr).alloc (.cells #[.string c.key, .int .u8 (c.v.kind.toNat : Int), .int .i64 c.v.n, .string c.v.s, .slice Cl c.v.l.length ml, .slice Co c.v.o.length mo] TFIELD)) fun _ _ h => h))
    go_wp2_with (at_builtin; refine wpList_own_append2 (ys := [F.mk c.key c.v]) _ rfl (.tmp 57) (.tmp 59) EField.ok ty_field rfl rfl rfl HObf.out HRxf.out HDxf.out ?d1 ?d2 ?d3 ?d4 ?_)
    case d1 => intro g hg; have := HOwr.out.lt hg; first | exact ⟨fun h => by have := h.lt HWZ.out; omega, fun h => by have := h.lt HWZ.out; omega⟩ | (have h7 := HWZ.out; exact ⟨fun _ => by omega, fun _ => by omega⟩) | omega
    case d2 => first | omega | (simp only [List.length_append, List.length_singleton]; omega)
    case d3 => first | omega | (simp only [List.length_append, List.length_singleton, maxLen]; omega)
    case d4 => have := HFwr.out.hbase; first | omega | (rw [World.size_alloc]; omega)
    intro vf w8 hown hk _
    have hown : Own EField w8 wz.heap.size TFIELD (FD S w.heap.size wz.heap.size) vf (xs ++ [F.mk c.key c.v]) := by first | exact hown | exact own_orF hown | (rw [List.append_assoc]; exact hown) | (rw [List.append_assoc]; exact own_orF hown)
    obtain ⟨Af, cf, rfl, hlf, hcf⟩ := hown.shape
    unfold maxLen at hcf
    rw [show (xs ++ [F.mk c.key c.v]).length = xs.length + 1 from by simp] at hown hlf ⊢
    have hk2 : Keep (fun k => Value.ownBlock (.slice A xs.length cA) = some k) wr w8 := (Keep.alloc (Keep.refl (fun k => Value.ownBlock (.slice A xs.length cA) = some k) wr) _).trans hk fun k _ e => e
    have HOw8 := hid hown
    have HFw8 := hid (HFwr.out.keep hk2 fun k hk e => by have := (HOwr.out.lt e).1; omega)
    clear hown hk hk2
    go_wp2
    go_ret
    exact ⟨_, _, rfl, HF.out.hw, by rw [← HXS.out, HDN.out]; simp only [fldR, Bool.false_eq_true, if_false]; exact HOw8.out, HFw8.out.ext⟩
end Go.Proofs.YtggkidnlmaindaaDoor
