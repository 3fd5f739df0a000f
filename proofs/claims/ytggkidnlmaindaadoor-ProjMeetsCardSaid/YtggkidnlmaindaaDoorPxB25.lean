/- Do6E, TiesA, MeetA, LayRC, TextA, TextB, TextC, TextD, TextE, TextF, LayDR, Open, OpenEl: laid together. -/
import Derived.Test.YtggkidnlmaindaaDoorPxB18
import Derived.Test.YtggkidnlmaindaaDoorPxB23
import Derived.Test.YtggkidnlmaindaaDoorPxB24
import Derived.Test.YtggkidnlmaindaaDoorPxB19
import Derived.Test.YtggkidnlmaindaaDoorPxB14
import Derived.Test.YtggkidnlmaindaaDoorPxB10
import Derived.Shelf.Utf8.RuneCount
import Derived.Ground.NamesProg
import Derived.Test.YtggkidnlmaindaaDoorProg
import Derived.Test.YtggkidnlmaindaaDoorPxB2
import Derived.Test.YtggkidnlmaindaaDoorPxB4
import Derived.Lib.MinMax
import Derived.Test.YtggkidnlmaindaaDoorPxB11
import Derived.Shelf.Unicode.DecodeAny
import Derived.Test.YtggkidnlmaindaaDoorPxB1
import Derived.OpenShut
import Derived.ProofKit
import Derived.ChangeOld
import Derived.Deep.Slices
import Derived.Deep.Fields
import Derived.ChangeArms
set_option linter.unusedSimpArgs false
set_option linter.unusedVariables false
set_option maxHeartbeats 25600000
set_option maxRecDepth 20000
namespace Go.Proofs.YtggkidnlmaindaaDoor
open Go.RowKit
def withO (x : V) (o : List F) : V := .mk x.kind x.n x.s x.l o
def Do6Is (w : World) (z : V) (e : Ending) (w' : World) : Prop := ∃ u, e = .returned (.tuple #[u, .int .i64 0]) ∧ VIs w' (fun k => w.heap.size ≤ k) u z ∧ Ext w w'
theorem rdo6_put (w0 : World) (hva : ValAny w0) (w : World) (hw : Ext w0 w) (S S2 : BS) (u t : Value) (v x z : V) (c : Cp) (hv : VAt w S u v) (hc : CAt w S2 t c) (hs : Snd6 c) (hg : getV v c.path = some x) (hsz : v.size ≤ 1000000) (hxo : x.o.length ≤ 100000)
  (hk : c.kind = 2 ∨ (c.kind = 3 ∧ fieldIs x.o c.key = true)) (hxk : x.kind = 5) (hz : putV v c.path (withO x (fldR (.mk c.key c.v) (c.kind.toNat == 3) x.o)) = some z) (hxz : (withO x (fldR (.mk c.key c.v) (c.kind.toNat == 3) x.o)).size ≤ 1000000) :
  Calls Tryd.prog 52 #[u, t] w (Do6Is w z) := by
 obtain ⟨pv, lv, ov, rfl, h1, h2, h3⟩ := hc.cut
 obtain ⟨Ap, cp, rfl, _⟩ := h1.shape
 obtain ⟨Al, cl, rfl, _⟩ := h2.shape
 obtain ⟨Ao, co, rfl, _⟩ := h3.shape
 obtain ⟨lx, ox, rfl, k1, k2⟩ := hv.cut
 obtain ⟨Bl, dl, rfl, _⟩ := k1.shape
 obtain ⟨Bo, do_, rfl, _⟩ := k2.shape
 obtain ⟨W, hW⟩ : ∃ W, ((w.alloc (.cells (vC v Bl dl Bo do_) TVAL)).alloc (.cells (cC c Ap cp Al cl Ao co) TCMP)).alloc (.cells #[.int .u8 0, .int .i64 0, .string ⟨#[]⟩, .slice none 0 0, .slice none 0 0] TVAL) = W := ⟨_, rfl⟩
 have hE1 : Ext w (w.alloc (.cells (vC v Bl dl Bo do_) TVAL)) := (Keep.refl _ _).alloc _
 have hE2 : Ext (w.alloc (.cells (vC v Bl dl Bo do_) TVAL)) ((w.alloc (.cells (vC v Bl dl Bo do_) TVAL)).alloc (.cells (cC c Ap cp Al cl Ao co) TCMP)) := (Keep.refl _ _).alloc _
 have hE3 : Ext ((w.alloc (.cells (vC v Bl dl Bo do_) TVAL)).alloc (.cells (cC c Ap cp Al cl Ao co) TCMP)) W := by rw [← hW]; exact (Keep.refl _ _).alloc _
 have hE : Ext w W := (hE1.ext hE2).ext hE3
 have hsz3 : W.heap.size = w.heap.size + 3 := by rw [← hW]; simp
 have hb : Blk W w.heap.size TVAL (vC v Bl dl Bo do_) := ((Blk.new _ _ _).keep hE2 id).keep hE3 id
 have hcb : Blk W (w.heap.size + 1) TCMP (cC c Ap cp Al cl Ao co) := by
  have := Blk.new (w.alloc (.cells (vC v Bl dl Bo do_) TVAL)) TCMP (cC c Ap cp Al cl Ao co)
  rw [World.size_alloc] at this
  exact this.keep hE3 id
 have hrb : Blk W (w.heap.size + 2) TVAL #[.int .u8 0, .int .i64 0, .string ⟨#[]⟩, .slice none 0 0, .slice none 0 0] := by
  have := Blk.new ((w.alloc (.cells (vC v Bl dl Bo do_) TVAL)).alloc (.cells (cC c Ap cp Al cl Ao co) TCMP)) TVAL #[.int .u8 0, .int .i64 0, .string ⟨#[]⟩, .slice none 0 0, .slice none 0 0]
  rw [World.size_alloc, World.size_alloc, hW] at this
  exact this
 have HV := hid (show VAt W (fun k => k < w.heap.size) (.agg (vC v Bl dl Bo do_)) v from VAt.more ⟨_, _, rfl, k1.ext EVal.ok hE, k2.ext EField.ok hE⟩ fun k _ h => h.2)
 have HCC := hid (show CAt W (fun k => k < w.heap.size) (.agg (cC c Ap cp Al cl Ao co)) c from CAt.more ⟨_, _, _, rfl, h1.ext ESt.ok hE, h2.ext EVal.ok hE, h3.ext EField.ok hE⟩ fun k _ h => h.2)
 have HP := hid ((h1.more (S' := fun k => k < w.heap.size) ESt.ok fun k _ h => h.2).ext ESt.ok hE)
 have HE := hid hE
 have HSZ := hid hsz3
 have HCB := hid hcb
 have HB := hid hb
 have HRB := hid hrb
 have HX := hid (hw.ext hE)
 have HVA := hid hva
 have HS := hid hs
 have HG := hid hg
 have HK := hid hk
 have HXK := hid hxk
 have HZ := hid hz
 have HXZ := hid hxz
 obtain ⟨y0, y1, y2, y3, y4⟩ := blk5 hb
 obtain ⟨x0, x1, x2, x3, x4, x5, x6, x7, x8, x9, x10, x11⟩ := sq12 hcb
 clear h1 h2 h3 k1 k2 hE hE1 hE2 hE3 hsz3 hb hcb hrb hw hva hs hg hk hxk hz hxz hc hv
 go_enter Tryd.func52, Tryd.ntmps52
 go_wp2_with fail
 refine (rcheck6_ok _ HVA.out W HX.out _ _ _ _ v x c HV.out HCC.out HS.out HG.out hsz (fun w1 S3 S4 u1 t1 he h1 h2 => rkinds_put w1 S3 S4 u1 t1 x c h1 h2 HK.out HXK.out)).mono ?_
 rintro e W2 ⟨rfl, hE2⟩
 have hcb := HCB.out.keep hE2 id
 have hb := HB.out.keep hE2 id
 have HRB2 := hid (HRB.out.keep hE2 id)
 have HVS0 := hid HRB2.out.lt
 have HE2 := hid (HE.out.ext hE2)
 have HV2 := hid (HV.out.ext hE2)
 have HC2 := hid (HCC.out.ext hE2)
 have HP2 := hid (HP.out.ext ESt.ok hE2)
 have HCB2 := hid hcb
 have HB2 := hid hb
 clear hE2 hW HV HCC HP HE HX HCB HB HRB y0 y1 y2 y3 y4 x0 x1 x2 x3 x4 x5 x6 x7 x8 x9 x10 x11
 obtain ⟨y0, y1, y2, y3, y4⟩ := blk5 hb
 obtain ⟨x0, x1, x2, x3, x4, x5, x6, x7, x8, x9, x10, x11⟩ := sq12 hcb
 clear hb hcb
 go_wp2_with fail
 refine (rget_new W2 _ _ v c.path _ _ HV2.out HP2.out hsz).mono ?_
 intro e W3 hget
 unfold RGetN at hget
 rw [HG.out] at hget
 obtain ⟨⟨ux, rfl, lq, oq, rfl, q1, q2⟩, hE3⟩ := hget
 obtain ⟨Cl, el, rfl, _⟩ := q1.shape
 obtain ⟨Co, eo, rfl, _⟩ := q2.shape
 have hA : Ext W3 (W3.alloc (.cells (vC x Cl el Co eo) TVAL)) := (Keep.refl _ _).alloc _
 have hxb := Blk.new W3 TVAL (vC x Cl el Co eo)
 have HXL := hid ((q1.more (S' := fun k => W2.heap.size ≤ k ∧ k < W3.heap.size) EVal.ok fun k h1 h2 => ⟨h2, h1⟩).ext EVal.ok hA)
 have HXO := hid ((q2.more (S' := fun k => W2.heap.size ≤ k ∧ k < W3.heap.size) EField.ok fun k h1 h2 => ⟨h2, h1⟩).ext EField.ok hA)
 have HE3 := hid (HE2.out.ext (hE3.ext hA))
 have HC3 := hid (HC2.out.ext (hE3.ext hA))
 have HV3 := hid (HV2.out.ext (hE3.ext hA))
 have HP3 := hid (HP2.out.ext ESt.ok (hE3.ext hA))
 have HS23 := hid hE3.size
 have hcb := HCB2.out.keep (hE3.ext hA) id
 have HCB3 := hid hcb
 have HB3 := hid (HB2.out.keep (hE3.ext hA) id)
 have HRB3 := hid (HRB2.out.keep (hE3.ext hA) id)
 have HXB := hid hxb
 clear q1 q2 hE3 hA HV2 HC2 HP2 HE2 HCB2 HB2 HRB2 y0 y1 y2 y3 y4 x0 x1 x2 x3 x4 x5 x6 x7 x8 x9 x10 x11
 obtain ⟨y0, y1, y2, y3, y4⟩ := blk5 hxb
 obtain ⟨x0, x1, x2, x3, x4, x5, x6, x7, x8, x9, x10, x11⟩ := sq12 hcb
 clear hxb hcb
 rcases HK.out with hk | ⟨hk, hf⟩
 all_goals
  have hc3 := HC3.out
  simp only [cC, cpCells] at hc3
  rw [hk] at hc3 x0
  have HC3K := hid hc3
  clear hc3 hk
  go_wp2_with fail
  generalize W3.alloc (.cells (vC x Cl el Co eo) TVAL) = W4 at *
  refine (fields6_ok W4 _ _ _ _ x.o c HXO.out HC3K.out hxo HS.out.size).mono ?_
  rintro e W5 ⟨ov, base, rfl, hbase, ho, hE5⟩
  obtain ⟨Df, cf, rfl, hlf, hcf⟩ := ho.shape
  have HZZ := HZ
  have HXZ2 := HXZ
  generalize fldR (.mk c.key c.v) (c.kind.toNat == 3) x.o = nf at *
  have hs5 := hE5.size
  have hxb := HXB.out.keep hE5 id
  have z4 := hxb.cell 4
  have g4 := hxb.frozen 4
  simp at z4
  have HVS : w.heap.size + 2 < W2.heap.size := HVS0.out
  have hw34 : W2.heap.size ≤ W3.heap.size := HS23.out
  have hwx : W3.heap.size < W4.heap.size := HXB.out.lt
  obtain ⟨X, hX⟩ : ∃ X, W5.setCell ⟨W3.heap.size, 4, none⟩ (.slice Df nf.length cf) = X := ⟨_, rfl⟩
  have hkx : Keep (· = W3.heap.size) W5 X := by rw [← hX]; exact (Keep.refl (· = W3.heap.size) W5).set1 4 _
  have hxb2 : Blk X W3.heap.size TVAL #[U8 x.kind, .int .i64 x.n, .string x.s, .slice Cl x.l.length el, .slice Df nf.length cf] := by rw [← hX]; exact hxb.set_ 4 (.slice Df nf.length cf)
  have HVX := hid (show VAt X (fun _ => True) (.agg #[U8 x.kind, .int .i64 x.n, .string x.s, .slice Cl x.l.length el, .slice Df nf.length cf]) (withO x nf) from ⟨_, _, rfl, (((HXL.out.ext EVal.ok hE5).keep EVal.ok hkx fun k h e => by omega).more EVal.ok fun _ _ _ => trivial), (((ho.sl EField.ok).keep EField.ok hkx fun k h e => by
   rcases h with (h | h) | h
   ·omega
   ·omega
   ·have := (ho.lt h).1; omega).more EField.ok fun _ _ _ => trivial)⟩)
  have hEX : Ext w X := (HE3.out.ext hE5).trans hkx fun k hk e => by omega
  have HEX := hid hEX
  have HVV := hid ((HV3.out.ext hE5).keep hkx fun k h e => by omega)
  have HPP := hid ((HP3.out.ext ESt.ok hE5).keep ESt.ok hkx fun k h e => by omega)
  have HRX := hid ((HRB3.out.keep hE5 id).keep hkx (by omega))
  have hvb := (HB3.out.keep hE5 id).keep hkx (by omega)
  have hcb := (HCB3.out.keep hE5 id).keep hkx (by omega)
  clear y0 y1 y2 y3 y4 x0 x1 x2 x3 x4 x5 x6 x7 x8 x9 x10 x11
  obtain ⟨y0, y1, y2, y3, y4⟩ := blk5 hvb
  obtain ⟨q0, q1, q2, q3, q4⟩ := blk5 hxb2
  have x1 := hcb.cell 1
  simp at x1
  clear hkx hxb hxb2 hE5 ho hEX hvb hcb HXL HXO HE3 HC3 HV3 HP3 HCB3 HB3 HRB3 HXB HC3K HZ HXZ HS HG HK HVA HS23
  go_wp2_with fail
  refine (rput_ok c.path X _ _ _ v (withO x nf) _ _ _ HVV.out HVX.out HPP.out hsz HXZ2.out).mono ?_
  intro e X2 hput
  unfold RPutIs at hput
  rw [HZZ.out] at hput
  obtain ⟨⟨uz, rfl, lz, oz, rfl, r1, r2⟩, hE7⟩ := hput
  obtain ⟨Dl, fl, rfl, _⟩ := r1.shape
  obtain ⟨Do, fo, rfl, _⟩ := r2.shape
  have hrb := HRX.out.keep hE7 id
  have hxz := HEX.out.size
  have hsx := HRX.out.lt
  obtain ⟨t0, t1, t2, t3, t4⟩ := sq5 hrb
  obtain ⟨g0, g1, g2, g3, gg4⟩ := sqf5 hrb
  have HK7 := hid (show Keep (· = w.heap.size + 2) X2 (set5 X2 (w.heap.size + 2) 0 (.int .u8 (z.kind.toNat : Int)) (.int .i64 z.n) (.string z.s) (.slice Dl z.l.length fl) (.slice Do z.o.length fo)) from set5_keep _ _ _ _ _ _ _ _)
  have HR1 := hid r1
  have HR2 := hid r2
  have HE7 := hid hE7
  clear r1 r2 hE7 hrb y0 y1 y2 y3 y4 q0 q1 q2 q3 q4 x1 hX z4 g4
  go_wp2
  refine bodyPost_ret (v := .tuple #[.agg (vC z Dl fl Do fo), .int .i64 0]) (by simp [results, Tryd.results52, go_sem, t0, t1, t2, t3, t4]) rfl ?_
  exact ⟨_, rfl, ⟨_, _, _, _, rfl, (HR1.out.keep EVal.ok HK7.out fun k h e => by omega).more EVal.ok fun k _ h => by omega, (HR2.out.keep EField.ok HK7.out fun k h e => by omega).more EField.ok fun k _ h => by omega⟩, (HEX.out.ext HE7.out).trans HK7.out fun k hk e => by omega⟩
theorem rise_risesB {o : List F} (h : Rise o) : risesB o = true := (risesB_iff o).2 fun _ hi => rise_at h hi
theorem kind_plain {k : UInt8} {n : Int} {s : ByteArray} {l : List V} {o : List F} (h : KindOk k n s l o) : plainB (.mk k n s l o) = true := by
 rcases h with ⟨rfl, rfl, rfl, rfl, rfl⟩ | ⟨rfl, hn, rfl, rfl, rfl⟩ | ⟨rfl, rfl, rfl, rfl⟩ | ⟨rfl, rfl, hs, rfl, rfl⟩ | ⟨rfl, rfl, rfl, rfl⟩ | ⟨rfl, rfl, rfl, rfl⟩
 ·simp [plainB, V.kind, V.n, V.s, V.l, V.o, ByteArray.toList_eq]
 ·rcases hn with rfl | rfl <;> simp [plainB, V.kind, V.n, V.s, V.l, V.o, ByteArray.toList_eq]
 ·simp [plainB, V.kind, V.s, V.l, V.o, ByteArray.toList_eq]
 ·have := valid_asc hs
  simp [plainB, V.kind, V.n, V.s, V.l, V.o, this]
 ·simp [plainB, V.kind, V.n, V.s, V.o, ByteArray.toList_eq]
 ·simp [plainB, V.kind, V.n, V.s, V.l, ByteArray.toList_eq]
mutual
theorem SV.snd : ∀ (v : V), SV v → v.snd = true
 | .mk k n s l o, h => by
  rw [SV] at h
  rw [V.snd, kind_plain h.1, rise_risesB h.2.2.2, SVs.snd l h.2.1, SFs.snd o h.2.2.1]; rfl
theorem SVs.snd : ∀ (l : List V), SVs l → V.snds l = true
 | [], _ => by rw [V.snds]
 | v :: vs, h => by rw [SVs] at h; rw [V.snds, SV.snd v h.1, SVs.snd vs h.2]; rfl
theorem SF.snd : ∀ (f : F), SF f → F.snd f = true
 | .mk k v, h => by rw [SF] at h; rw [F.snd, valid_asc h.1, SV.snd v h.2]; rfl
theorem SFs.snd : ∀ (l : List F), SFs l → F.snds l = true
 | [], _ => by rw [F.snds]
 | v :: vs, h => by rw [SFs] at h; rw [F.snds, SF.snd v h.1, SFs.snd vs h.2]; rfl
end
mutual
theorem VStr.mono {R R' : Nat} (hR : R ≤ R') : ∀ (v : V), VStr R v → VStr R' v
 | .mk k n s l o, h => by
  rw [VStr] at h ⊢
  exact ⟨Nat.le_trans h.1 hR, VStrs.mono hR l h.2.1, FStrs.mono hR o h.2.2⟩
theorem VStrs.mono {R R' : Nat} (hR : R ≤ R') : ∀ (l : List V), VStrs R l → VStrs R' l
 | [], _ => by rw [VStrs]; trivial
 | v :: vs, h => by rw [VStrs] at h ⊢; exact ⟨VStr.mono hR v h.1, VStrs.mono hR vs h.2⟩
theorem FStr.mono {R R' : Nat} (hR : R ≤ R') : ∀ (f : F), FStr R f → FStr R' f
 | .mk k v, h => by rw [FStr] at h ⊢; exact ⟨Nat.le_trans h.1 hR, VStr.mono hR v h.2⟩
theorem FStrs.mono {R R' : Nat} (hR : R ≤ R') : ∀ (l : List F), FStrs R l → FStrs R' l
 | [], _ => by rw [FStrs]; trivial
 | v :: vs, h => by rw [FStrs] at h ⊢; exact ⟨FStr.mono hR v h.1, FStrs.mono hR vs h.2⟩
end
theorem SV.big {v : V} (h : SV v) : VStr BigR v := VStr.mono (by unfold BigR; decide) v (SV.str v h)
theorem key_self (K : ByteArray) : keyLt K K = false := less_irrefl K.toList
theorem fldR_true (f : F) : ∀ o : List F, fldR f true o = o.filter fun y => !(y.key.toList == f.key.toList)
 | [] => rfl
 | y :: ys => by
  rw [fldR, Bool.true_or, fldR_true f ys]
  cases h : (y.key.toList == f.key.toList) <;> simp [h]
theorem sizes_filter (p : F → Bool) : ∀ o : List F, F.sizes (o.filter p) ≤ F.sizes o
 | [] => Nat.le_refl _
 | y :: ys => by
  have h := sizes_filter p ys
  rw [List.filter_cons, F.sizes]
  split
  ·rw [F.sizes]; omega
  ·omega
theorem fldR_sizes (f : F) : ∀ (dn : Bool) (o : List F), F.sizes (fldR f dn o) ≤ f.size + F.sizes o
 | dn, [] => by cases dn <;> simp [fldR, F.sizes]
 | dn, y :: ys => by
  have h1 := fldR_sizes f (dn || geB y.key f.key) ys
  have h2 : F.sizes (fldR f true ys) ≤ F.sizes ys := by rw [fldR_true]; exact sizes_filter _ ys
  rw [fldR, F.sizes_append, F.sizes_append, F.sizes]
  have h3 : F.sizes (if (y.key.toList == f.key.toList) = true then [] else [y]) ≤ y.size := by split <;> simp [F.sizes]
  cases hc : (!dn && geB y.key f.key) with
  | true =>
   have hg : geB y.key f.key = true := by cases dn <;> simp_all
   rw [hg, Bool.or_true] at h1 ⊢
   simp only [if_true, F.sizes]
   omega
  | false =>
   simp only [Bool.false_eq_true, if_false, F.sizes]
   omega
mutual
theorem V.weigh : ∀ (v : V), VStr 40 v → v.weight + 40 ≤ 81 * v.size
 | .mk k n s l o, h => by
  rw [VStr] at h
  have h1 := V.weighs l h.2.1
  have h2 := F.weighs o h.2.2
  rw [V.weight, V.size]
  omega
theorem V.weighs : ∀ (l : List V), VStrs 40 l → V.weights l ≤ 81 * V.sizes l
 | [], _ => by rw [V.weights]; omega
 | v :: vs, h => by
  rw [VStrs] at h
  have h1 := V.weigh v h.1
  have h2 := V.weighs vs h.2
  rw [V.weights, V.sizes]; omega
theorem F.weighs : ∀ (l : List F), FStrs 40 l → F.weights l ≤ 81 * F.sizes l
 | [], _ => by rw [F.weights]; omega
 | .mk k v :: vs, h => by
  rw [FStrs, FStr] at h
  have h1 := V.weigh v h.1.2
  have h2 := F.weighs vs h.2
  rw [F.weights, F.sizes, F.weight, F.size]; omega
end
def lk (K : ByteArray) : List F → Option V
 | [] => none
 | f :: fs => if (f.key.toList == K.toList) = true then some f.v else lk K fs
theorem keyB {a b : ByteArray} : (a.toList == b.toList) = true ↔ a = b := ⟨fun h => key_eq (by simpa using h), fun h => by subst h; simp⟩
theorem keyBn {a b : ByteArray} : (a.toList == b.toList) = false ↔ a ≠ b := by
 rw [← Bool.not_eq_true, keyB]
theorem lk_eq (K : ByteArray) (f : F) (fs : List F) (h : f.key = K) : lk K (f :: fs) = some f.v := by rw [lk, if_pos (keyB.2 h)]
theorem lk_ne (K : ByteArray) (f : F) (fs : List F) (h : f.key ≠ K) : lk K (f :: fs) = lk K fs := by rw [lk, if_neg (by rw [keyB]; exact h)]
theorem lk_none {K : ByteArray} : ∀ {o : List F}, (∀ f ∈ o, f.key ≠ K) → lk K o = none
 | [], _ => rfl
 | f :: fs, h => by rw [lk_ne K f fs (h f List.mem_cons_self)]; exact lk_none fun g hg => h g (List.mem_cons_of_mem _ hg)
theorem lk_mem {K : ByteArray} {x : V} : ∀ {o : List F}, lk K o = some x → ∃ f ∈ o, f.key = K ∧ f.v = x
 | [], h => by cases h
 | f :: fs, h => by
  by_cases e : f.key = K
  ·rw [lk_eq K f fs e] at h; exact ⟨f, List.mem_cons_self, e, by simpa using h⟩
  ·rw [lk_ne K f fs e] at h
   obtain ⟨g, h1, h2⟩ := lk_mem h
   exact ⟨g, List.mem_cons_of_mem _ h1, h2⟩
theorem lk_filter (K : ByteArray) (g : ByteArray) : ∀ o : List F, lk K (o.filter fun y => !(y.key.toList == g.toList)) = if g = K then none else lk K o
 | [] => by simp [lk]
 | f :: fs => by
  have ih := lk_filter K g fs
  rw [List.filter_cons]
  by_cases e : f.key = g
  ·rw [if_neg (by rw [keyB.2 e]; decide), ih]
   by_cases e2 : g = K
   ·rw [if_pos e2, if_pos e2]
   ·rw [if_neg e2, if_neg e2, lk_ne K f fs (by rw [e]; exact e2)]
  ·rw [if_pos (by rw [keyBn.2 e]; rfl)]
   by_cases e2 : f.key = K
   ·rw [lk_eq K f _ e2, lk_eq K f _ e2, if_neg (by rw [← e2]; exact fun h => e h.symm)]
   ·rw [lk_ne K f _ e2, lk_ne K f _ e2, ih]
theorem geB_lt {a b : ByteArray} (h : geB a b = false) : keyLt a b = true := by
 unfold geB at h
 show Op.bytesLess a.toList b.toList = true
 simpa using h
theorem lt_ne {a b : ByteArray} (h : keyLt a b = true) : a ≠ b := fun e => by
 subst e; rw [key_self] at h; cases h
theorem geB_gt {a b : ByteArray} (h : geB a b = true) (hne : a ≠ b) : keyLt b a = true := by
 unfold geB at h
 show Op.bytesLess b.toList a.toList = true
 exact less_total (by simpa using h) fun e => hne (key_eq e)
theorem lk_fldR (f : F) (K : ByteArray) : ∀ (dn : Bool) (o : List F), lk K (fldR f dn o) = if f.key = K then (if dn = true then none else some f.v) else lk K o
 | true, o => by
  rw [fldR_true, lk_filter]
  by_cases e : f.key = K <;> simp [e]
 | false, [] => by
  rw [show fldR f false [] = [f] from rfl]
  by_cases e : f.key = K
  ·rw [lk_eq K f [] e, if_pos e, if_neg (by decide)]
  ·rw [lk_ne K f [] e, if_neg e]
 | false, y :: ys => by
  rw [fldR]
  cases hge : geB y.key f.key with
  | false =>
   have hne := lt_ne (geB_lt hge)
   rw [keyBn.2 hne]
   simp only [Bool.and_false, Bool.false_eq_true, if_false, List.nil_append, Bool.or_false, List.singleton_append]
   by_cases e2 : y.key = K
   ·rw [lk_eq K y _ e2, lk_eq K y _ e2, if_neg (by rw [← e2]; exact fun h => hne h.symm)]
   ·rw [lk_ne K y _ e2, lk_ne K y _ e2, lk_fldR f K false ys]; simp
  | true =>
   simp only [Bool.not_false, Bool.and_true, if_true, Bool.or_true, List.singleton_append]
   by_cases e : f.key = K
   ·rw [lk_eq K f _ e]; simp [e]
   ·rw [lk_ne K f _ e, if_neg e, fldR_true]
    by_cases e3 : y.key = f.key
    ·rw [keyB.2 e3]
     simp only [if_true, List.nil_append]
     rw [lk_filter, if_neg e, lk_ne K y _ (by rw [e3]; exact e)]
    ·rw [keyBn.2 e3]
     simp only [Bool.false_eq_true, if_false, List.singleton_append]
     by_cases e2 : y.key = K
     ·rw [lk_eq K y _ e2, lk_eq K y _ e2]
     ·rw [lk_ne K y _ e2, lk_ne K y _ e2, lk_filter, if_neg e]
theorem fldR_mem {f : F} : ∀ {dn : Bool} {o : List F} {y : F}, y ∈ fldR f dn o → y = f ∨ y ∈ o
 | dn, [], y, h => by
  cases dn <;> simp [fldR] at h
  exact .inl h
 | dn, z :: zs, y, h => by
  rw [fldR, List.mem_append, List.mem_append] at h
  rcases h with h | h | h
  ·split at h
   ·exact .inl (by simpa using h)
   ·cases h
  ·split at h
   ·cases h
   ·exact .inr (by rw [List.mem_singleton.1 h]; exact List.mem_cons_self)
  ·rcases fldR_mem h with h | h
   ·exact .inl h
   ·exact .inr (List.mem_cons_of_mem _ h)
theorem keyLt_trans {a b c : ByteArray} (h1 : keyLt a b = true) (h2 : keyLt b c = true) : keyLt a c = true := less_trans h1 h2
theorem rise_filter (p : F → Bool) {o : List F} (h : Rise o) : Rise (o.filter p) := (rise_iff _).2 (((rise_iff o).1 h).filter p)
theorem fldR_rise (f : F) : ∀ (dn : Bool) (o : List F), Rise o → Rise (fldR f dn o)
 | true, o, h => by rw [fldR_true]; exact rise_filter _ h
 | false, [], _ => ⟨fun _ h => (by cases h), trivial⟩
 | false, y :: ys, h => by
  rw [fldR]
  cases hge : geB y.key f.key with
  | false =>
   have hlt := geB_lt hge
   rw [keyBn.2 (lt_ne hlt)]
   simp only [Bool.and_false, Bool.false_eq_true, if_false, List.nil_append, Bool.or_false, List.singleton_append]
   refine ⟨fun g hg => ?_, fldR_rise f false ys h.2⟩
   rcases fldR_mem hg with rfl | hg
   ·exact hlt
   ·exact h.1 g hg
  | true =>
   simp only [Bool.not_false, Bool.and_true, if_true, Bool.or_true, List.singleton_append]
   rw [fldR_true]
   by_cases e3 : y.key = f.key
   ·rw [keyB.2 e3]
    simp only [if_true, List.nil_append]
    exact ⟨fun g hg => by rw [← e3]; exact h.1 g (List.mem_filter.1 hg).1, rise_filter _ h.2⟩
   ·have hgt := geB_gt hge e3
    rw [keyBn.2 e3]
    simp only [Bool.false_eq_true, if_false, List.singleton_append]
    refine ⟨fun g hg => ?_, fun g hg => h.1 g (List.mem_filter.1 hg).1, rise_filter _ h.2⟩
    rcases List.mem_cons.1 hg with rfl | hg
    ·exact hgt
    ·exact keyLt_trans hgt (h.1 g (List.mem_filter.1 hg).1)
theorem lk_above {f : F} {fs : List F} (h : ∀ g ∈ fs, keyLt f.key g.key = true) : lk f.key fs = none := lk_none fun g hg e => lt_ne (h g hg) e.symm
theorem lk_inj : ∀ {o o' : List F}, Rise o → Rise o' → (∀ K, lk K o = lk K o') → o = o'
 | [], [], _, _, _ => rfl
 | [], g :: gs, _, _, h => by have := h g.key; rw [lk_eq g.key g gs rfl] at this; cases this
 | f :: fs, [], _, _, h => by have := h f.key; rw [lk_eq f.key f fs rfl] at this; cases this
 | f :: fs, g :: gs, hr, hr', h => by
  have h1 := h f.key
  have h2 := h g.key
  rw [lk_eq f.key f fs rfl] at h1
  rw [lk_eq g.key g gs rfl] at h2
  have hk : f.key = g.key := by
   by_cases e : f.key = g.key
   ·exact e
   ·exfalso
    rw [lk_ne f.key g gs (fun h => e h.symm)] at h1
    rw [lk_ne g.key f fs e] at h2
    obtain ⟨a, ha, ha2, _⟩ := lk_mem h1.symm
    obtain ⟨b, hb, hb2, _⟩ := lk_mem h2
    have q1 := hr'.1 a ha
    have q2 := hr.1 b hb
    rw [ha2] at q1
    rw [hb2] at q2
    exact lt_ne (keyLt_trans q1 q2) rfl
  rw [lk_eq f.key g gs hk.symm] at h1
  have hv : f.v = g.v := by simpa using h1
  have hfg : f = g := by cases f; cases g; simp only [F.key, F.v] at hk hv; rw [hk, hv]
  subst hfg
  congr 1
  refine lk_inj hr.2 hr'.2 fun K => ?_
  have h3 := h K
  by_cases e : f.key = K
  ·subst e; rw [lk_above hr.1, lk_above hr'.1]
  ·rwa [lk_ne K f fs e, lk_ne K f gs e] at h3
theorem lk_at : ∀ {o : List F}, Rise o → ∀ {j : Nat} (hj : j < o.length), lk o[j].key o = some o[j].v
 | f :: fs, hr, 0, _ => lk_eq _ f fs rfl
 | f :: fs, hr, j + 1, hj => by
  have hj' : j < fs.length := by simpa using hj
  simp only [List.getElem_cons_succ]
  rw [lk_ne _ f fs (lt_ne (hr.1 _ (List.getElem_mem hj')))]
  exact lk_at hr.2 hj'
theorem step_lk {v y : V} {s : St} {loc : Loc} (hr : Rise v.o) (hl : s.list = false) (h1 : stepV v s = some loc) (h2 : v.child? loc = some y) : v.kind = 5 ∧ lk s.key v.o = some y := by
 rw [stepV_o hl] at h1
 by_cases hc : v.kind = 5 ∧ fieldIs v.o s.key = true
 ·rw [if_pos hc] at h1
  injection h1 with h1
  subst h1
  have hk := fieldIs_lt hc.2
  have h3 := hc.2
  rw [fieldIs_some hk rfl, keyB] at h3
  rw [child_o, List.getElem?_eq_getElem hk] at h2
  have h4 := lk_at hr hk
  rw [h3] at h4
  rw [h4]
  exact ⟨hc.1, h2⟩
 ·rw [if_neg hc] at h1; cases h1
theorem lk_step {v y : V} {s : St} (hr : Rise v.o) (hk : v.kind = 5) (hl : s.list = false) (h : lk s.key v.o = some y) : ∃ loc, stepV v s = some loc ∧ v.child? loc = some y := by
 obtain ⟨f, hf, h1, h2⟩ := lk_mem h
 obtain ⟨j, hj, rfl⟩ := List.getElem_of_mem hf
 have h3 := fieldL_of hr hj
 rw [h1] at h3
 refine ⟨.o j, ?_, ?_⟩
 ·rw [stepV_o hl, if_pos ⟨hk, h3.2⟩, h3.1]
 ·rw [child_o, List.getElem?_eq_getElem hj]; simp [h2]
theorem fieldIs_lk {o : List F} (hr : Rise o) (K : ByteArray) : fieldIs o K = (lk K o).isSome := by
 cases h : lk K o with
 | none =>
  cases h2 : fieldIs o K with
  | false => rfl
  | true =>
   have hk := fieldIs_lt h2
   have h3 := h2
   rw [fieldIs_some hk rfl, keyB] at h3
   have h4 := lk_at hr hk
   rw [h3, h] at h4; cases h4
 | some y =>
  obtain ⟨f, hf, h1, h2⟩ := lk_mem h
  obtain ⟨j, hj, rfl⟩ := List.getElem_of_mem hf
  have h3 := fieldL_of hr hj
  rw [h1] at h3
  rw [h3.2]; rfl
theorem rise_keys {o o' : List F} (h : o.map F.key = o'.map F.key) (hr : Rise o) : Rise o' := by
 have e : ∀ o : List F, Rise o ↔ (o.map F.key).Pairwise fun a b => keyLt a b = true := fun o => by rw [rise_iff, List.pairwise_map]
 rw [e] at hr ⊢
 rw [← h]; exact hr
theorem lk_set (K : ByteArray) (x : V) : ∀ {o : List F}, Rise o → ∀ {j : Nat} (hj : j < o.length), lk K (o.set j (.mk o[j].key x)) = if o[j].key = K then some x else lk K o
 | f :: fs, hr, 0, _ => by
  simp only [List.set_cons_zero, List.getElem_cons_zero]
  by_cases e : f.key = K
  ·rw [if_pos e, lk_eq K (.mk f.key x) fs e]; rfl
  ·rw [if_neg e, lk_ne K (.mk f.key x) fs e, lk_ne K f fs e]
 | f :: fs, hr, j + 1, hj => by
  have hj' : j < fs.length := by simpa using hj
  simp only [List.set_cons_succ, List.getElem_cons_succ]
  have ih := lk_set K x hr.2 hj'
  by_cases e : f.key = K
  ·rw [lk_eq K f _ e, lk_eq K f _ e, if_neg fun h => lt_ne (hr.1 _ (List.getElem_mem hj')) (e.trans h.symm)]
  ·rw [lk_ne K f _ e, lk_ne K f _ e]; exact ih
theorem put_lk {v y : V} {s : St} {loc : Loc} (hr : Rise v.o) (hl : s.list = false) (h1 : stepV v s = some loc) (h2 : v.child? loc = some y) (x : V) :
  Rise (v.put loc x).o ∧ (v.put loc x).l = v.l ∧ ∀ K, lk K (v.put loc x).o = if s.key = K then some x else lk K v.o := by
 rw [stepV_o hl] at h1
 by_cases hc : v.kind = 5 ∧ fieldIs v.o s.key = true
 ·rw [if_pos hc] at h1
  injection h1 with h1
  subst h1
  have hk := fieldIs_lt hc.2
  have h3 := hc.2
  rw [fieldIs_some hk rfl, keyB] at h3
  rw [(put_o v _ x).1, (put_o v _ x).2, List.getElem?_eq_getElem hk]
  refine ⟨rise_keys ?_ hr, rfl, fun K => ?_⟩
  ·have := put_keys v.o (fieldL v.o s.key) x
   rw [List.getElem?_eq_getElem hk] at this
   exact this.symm
  ·have := lk_set K x hr hk
   simp only
   rw [this, h3]
 ·rw [if_neg hc] at h1; cases h1
theorem V.ext5 {a b : V} (hk : a.kind = b.kind) (hn : a.n = b.n) (hs : a.s = b.s) (hl : a.l = b.l) (ho : a.o = b.o) : a = b := by
 cases a; cases b
 simp only [V.kind, V.n, V.s, V.l, V.o] at hk hn hs hl ho
 subst hk hn hs hl ho
 rfl
end Go.Proofs.YtggkidnlmaindaaDoor
namespace Go.Proofs
open Go.Shelf
end Go.Proofs
namespace Go.Proofs.YtggkidnlmaindaaDoor
open Go.RowKit
abbrev tcL (k p key : Value) (i : Int) (j : Value) (n : Int) (v0 v1 v2 v3 v4 s : Value) : List Value := [k, p, key, .int .i64 i, j, .int .i64 n, v0, v1, v2, v3, v4, s]
def ETt (k p key j v0 v1 v2 v3 v4 s : Value) : El (Int × Int) := { size := 12, rd := fun _ _ cs x => cs = tcL k p key x.1 j x.2 v0 v1 v2 v3 v4 s }
def put12 (w : World) (g : Nat) (x0 x1 x2 x3 x4 x5 x6 x7 x8 x9 x10 x11 : Value) : World :=
 (((((((((((w.setCell ⟨g, 0, none⟩ x0).setCell ⟨g, 1, none⟩ x1).setCell ⟨g, 2, none⟩ x2).setCell ⟨g, 3, none⟩ x3).setCell ⟨g, 4, none⟩ x4).setCell ⟨g, 5, none⟩ x5).setCell ⟨g, 6, none⟩ x6).setCell ⟨g, 7, none⟩ x7).setCell ⟨g, 8, none⟩ x8).setCell ⟨g, 9, none⟩ x9).setCell ⟨g, 10, none⟩ x10).setCell ⟨g, 11, none⟩ x11
theorem put12_keep (w : World) (g : Nat) (x0 x1 x2 x3 x4 x5 x6 x7 x8 x9 x10 x11 : Value) : Keep (· = g) w (put12 w g x0 x1 x2 x3 x4 x5 x6 x7 x8 x9 x10 x11) :=
 ((((((((((((Keep.refl _ _).set1 0 _).set1 1 _).set1 2 _).set1 3 _).set1 4 _).set1 5 _).set1 6 _).set1 7 _).set1 8 _).set1 9 _).set1 10 _).set1 11 _
theorem put12_blk {w : World} {g : Nat} {T : TypeId} {z0 z1 z2 z3 z4 z5 z6 z7 z8 z9 z10 z11 : Value} (h : Blk w g T #[z0, z1, z2, z3, z4, z5, z6, z7, z8, z9, z10, z11]) (x0 x1 x2 x3 x4 x5 x6 x7 x8 x9 x10 x11 : Value) :
  Blk (put12 w g x0 x1 x2 x3 x4 x5 x6 x7 x8 x9 x10 x11) g T #[x0, x1, x2, x3, x4, x5, x6, x7, x8, x9, x10, x11] := by
 have h0 : Blk _ g T #[x0, z1, z2, z3, z4, z5, z6, z7, z8, z9, z10, z11] := h.set_ 0 x0
 have h1 : Blk _ g T #[x0, x1, z2, z3, z4, z5, z6, z7, z8, z9, z10, z11] := h0.set_ 1 x1
 have h2 : Blk _ g T #[x0, x1, x2, z3, z4, z5, z6, z7, z8, z9, z10, z11] := h1.set_ 2 x2
 have h3 : Blk _ g T #[x0, x1, x2, x3, z4, z5, z6, z7, z8, z9, z10, z11] := h2.set_ 3 x3
 have h4 : Blk _ g T #[x0, x1, x2, x3, x4, z5, z6, z7, z8, z9, z10, z11] := h3.set_ 4 x4
 have h5 : Blk _ g T #[x0, x1, x2, x3, x4, x5, z6, z7, z8, z9, z10, z11] := h4.set_ 5 x5
 have h6 : Blk _ g T #[x0, x1, x2, x3, x4, x5, x6, z7, z8, z9, z10, z11] := h5.set_ 6 x6
 have h7 : Blk _ g T #[x0, x1, x2, x3, x4, x5, x6, x7, z8, z9, z10, z11] := h6.set_ 7 x7
 have h8 : Blk _ g T #[x0, x1, x2, x3, x4, x5, x6, x7, x8, z9, z10, z11] := h7.set_ 8 x8
 have h9 : Blk _ g T #[x0, x1, x2, x3, x4, x5, x6, x7, x8, x9, z10, z11] := h8.set_ 9 x9
 have h10 : Blk _ g T #[x0, x1, x2, x3, x4, x5, x6, x7, x8, x9, x10, z11] := h9.set_ 10 x10
 have h11 : Blk _ g T #[x0, x1, x2, x3, x4, x5, x6, x7, x8, x9, x10, x11] := h10.set_ 11 x11
 exact h11
theorem ETt.ok {k p key j v0 v1 v2 v3 v4 s : Value} (h : ∀ u ∈ [k, p, key, j, v0, v1, v2, v3, v4, s], u.oneCell' = true) : (ETt k p key j v0 v1 v2 v3 v4 s).Ok where
 pos := by show 0 < 12; decide
 len := fun h => by have h := h; subst h; rfl
 one := fun hx u hu => by
  subst hx
  simp only [List.mem_cons, List.not_mem_nil, or_false] at hu h
  rcases hu with hu | hu | hu | hu | hu | hu | hu | hu | hu | hu | hu | hu
  ·exact h u (by simp [hu])
  ·exact h u (by simp [hu])
  ·exact h u (by simp [hu])
  ·rw [hu]; rfl
  ·exact h u (by simp [hu])
  ·rw [hu]; rfl
  all_goals exact h u (by simp [hu])
 keep := fun h _ _ => h
 more := fun h _ => h
end Go.Proofs.YtggkidnlmaindaaDoor
namespace Go.Proofs
open Go.Shelf
def Tryd.laysDR_ren : Go.Shelf.Ren := ⟨fun | 197 => 96 | 260 => 98 | n => n, fun | 9 => 9 | 21 => 21 | 3 => 3 | 4 => 4 | 5 => 5 | 105 => 141 | 119 => 93 | 0 => 0 | 46 => 71 | 139 => 96 | 138 => 95 | n => n, fun | 3 => 0 | 4 => 1 | n => n⟩
theorem Tryd.laysDR : Go.Proofs.Lays.n197 Tryd.prog Tryd.laysDR_ren := {
 mixed := by kernel_rfl
 f197 := Tryd.func96.trans (congrArg some (by kernel_rfl))
 f260 := Tryd.func98.trans (congrArg some (by kernel_rfl))
 t0 := Tryd.underlying0
 a0 := Tryd.isAgg0
 z0 := Tryd.sizeOf0
 v0 := Tryd.zeroValue0
 t3 := Tryd.underlying3
 a3 := Tryd.isAgg3
 z3 := Tryd.sizeOf3
 v3 := Tryd.zeroValue3
 t4 := Tryd.underlying4
 a4 := Tryd.isAgg4
 z4 := Tryd.sizeOf4
 v4 := Tryd.zeroValue4
 t5 := Tryd.underlying5
 a5 := Tryd.isAgg5
 z5 := Tryd.sizeOf5
 v5 := Tryd.zeroValue5
 t9 := Tryd.underlying9
 a9 := Tryd.isAgg9
 z9 := Tryd.sizeOf9
 v9 := Tryd.zeroValue9
 t21 := Tryd.underlying21
 a21 := Tryd.isAgg21
 z21 := Tryd.sizeOf21
 v21 := Tryd.zeroValue21
 t46 := Tryd.underlying71
 a46 := Tryd.isAgg71
 z46 := Tryd.sizeOf71
 v46 := Tryd.zeroValue71
 t105 := Tryd.underlying141
 a105 := Tryd.isAgg141
 z105 := Tryd.sizeOf141
 v105 := Tryd.zeroValue141
 t119 := Tryd.underlying93
 a119 := Tryd.isAgg93
 z119 := Tryd.sizeOf93
 t138 := Tryd.underlying95
 a138 := Tryd.isAgg95
 z138 := Tryd.sizeOf95
 v138 := Tryd.zeroValue95
 t139 := Tryd.underlying96
 a139 := Tryd.isAgg96
 z139 := Tryd.sizeOf96
 v139 := Tryd.zeroValue96
 g3 := by kernel_rfl
 g4 := by kernel_rfl }
end Go.Proofs
namespace Go.Proofs.YtggkidnlmaindaaDoor
open Go.ChangeShapes Go.WideShapes Go.ChangeAt Go.RowKit
section
variable {H : Type} {enc : TypeId × Value → H} {P : Program} {W : World}
theorem add_cell {x : Addr} {i : Nat} (hx : x.spot = none) : x.add i = ⟨x.block, x.off + i, none⟩ := by
 cases x; simp at hx; subst hx
 unfold Addr.add
 split <;> simp_all
theorem spot_of_cell {x : Addr} {v : Value} (h : W.cell? x = some v) : x.spot = none := by
 unfold World.cell? at h
 split at h
 ·split at h
  ·cases h
  ·rename_i hs; simpa using hs
 ·cases h
theorem u8_of_wf {n : Int} (h : (Lit.int .u8 n).wf = true) : ∃ c : UInt8, n = (c.toNat : Int) := by
 have h1 : 0 ≤ n ∧ n ≤ 255 := by
  simp [Lit.wf, IntKind.has, IntKind.min, IntKind.max, IntKind.signed, IntKind.bits] at h
  omega
 refine ⟨UInt8.ofNat n.toNat, ?_⟩
 rw [UInt8.toNat_ofNat_of_lt' (by simp [UInt8.size]; omega)]
 omega
end
end Go.Proofs.YtggkidnlmaindaaDoor
namespace Go.Proofs.YtggkidnlmaindaaDoor
open Go.ChangeShapes Go.WideShapes Go.ChangeAt Go.RowKit Go.Deep
theorem cells_build {α : Type} {E : El α} (hE : E.Ok) {w : World} {S : BS} {b off : Nat} : ∀ (n : Nat), (∀ i, i < n → ∃ (x : α) (c0 : List Value), E.rd w S c0 x ∧ ∀ j u, c0[j]? = some u → w.cell? ⟨b, off + (i * E.size + j), none⟩ = some u) →
  ∃ (l : List α) (cs : List Value), l.length = n ∧ Cells E w S cs l ∧ ∀ k u, cs[k]? = some u → w.cell? ⟨b, off + k, none⟩ = some u
 | 0, _ => ⟨[], [], rfl, rfl, fun k u h => by simp at h⟩
 | n + 1, h => by
  obtain ⟨l, cs, hl, hc, hk⟩ := cells_build hE n fun i hi => h i (by omega)
  obtain ⟨x, c0, hx, h0⟩ := h n (by omega)
  refine ⟨l ++ [x], cs ++ c0, by simp [hl], hc.append (Cells.single hx), fun k u hu => ?_⟩
  have hcl := hc.len hE
  rcases Nat.lt_or_ge k cs.length with h1 | h1
  ·rw [List.getElem?_append_left h1] at hu; exact hk k u hu
  ·rw [List.getElem?_append_right h1] at hu
   have := h0 _ u hu
   rwa [show n * E.size + (k - cs.length) = k from by rw [hcl, hl] at h1 ⊢; omega] at this
section
variable {H : Type} {enc : TypeId × Value → H} {P : Program} {W : World}
end
end Go.Proofs.YtggkidnlmaindaaDoor
