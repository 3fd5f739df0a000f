/- ProjH, ProjI, OthP, EntA, EntC, Part: laid together. -/
import Derived.Test.YtggkidnlmaindaaDoorPxB38
import Derived.Test.YtggkidnlmaindaaDoorPxB8
import Derived.Test.YtggkidnlmaindaaDoorPxB6
import Derived.Test.YtggkidnlmaindaaDoorPxB13
import Derived.Test.YtggkidnlmaindaaDoorPxB30
import Derived.Test.YtggkidnlmaindaaDoorPxB35
import Derived.Test.YtggkidnlmaindaaDoorPxB37
set_option linter.unusedSimpArgs false
set_option linter.unusedVariables false
set_option maxHeartbeats 25600000
set_option maxRecDepth 20000
namespace Go.Proofs.YtggkidnlmaindaaDoor
open Go.RowKit
def projV (v : V) (fs : List ByteArray) : V := if v.kind = 5 then .mk 5 0 ⟨#[]⟩ [] (v.o.filter fun f => !goes fs f) else .mk 0 0 ⟨#[]⟩ [] []
def ProjIs (w : World) (y : V) (e : Ending) (w' : World) : Prop := ∃ u', e = .returned u' ∧ VAt w' (fun _ => True) u' y ∧ Ext w w'
theorem TV.own {w : World} {a b : Nat} {x0 x1 x2 lv ov : Value} {v : V} (h : TV w v a b [x0, x1, x2, lv, ov]) : ∃ a1, a ≤ a1 ∧ Own EField w a TFIELD (fun q => a1 ≤ q ∧ q < b) ov v.o ∧ ∀ q, ov.ownBlock = some q → a ≤ q ∧ q < a1 ∧ q < b := by
 cases v with
 | mk k n s l o =>
  rw [TV] at h
  obtain ⟨lv', ov', ls, os, a1, a2, e, h1, _, hr, h3, h4⟩ := h
  simp at e
  obtain ⟨_, _, _, _, rfl⟩ := e
  have hl3 := (TVs_le l a1 a2 ls h3).1
  have hl4 := (TFs_le o a2 b os h4).1
  have hc := (rdFs_cells o os).1 (TFs_rd o a2 b os (S := fun q => a1 ≤ q ∧ q < b) (fun q h h' => ⟨by omega, h'⟩) h4)
  refine ⟨a1, h1, ?_, ?_⟩
  ·obtain ⟨h0, ⟨rfl, h⟩ | ⟨g, cap, cur, rfl, q1, q2, q3, q4, q5, q6, q7⟩⟩ := hr
   ·exact .inl ⟨rfl, List.eq_nil_of_length_eq_zero h⟩
   ·exact .inr ⟨g, cap, cur, rfl, q1, q3, q4, q5, q6, by rw [show (V.mk k n s l o).o.length * EField.size = o.length * 6 from rfl, q7]; exact hc⟩
  ·intro q hq
   obtain ⟨h0, ⟨rfl, h⟩ | ⟨g, cap, cur, rfl, q1, q2, q3, q4, q5, q6, q7⟩⟩ := hr
   ·simp [Value.ownBlock] at hq
   ·simp [Value.ownBlock] at hq; subst hq; exact ⟨q1, q2, by omega⟩
theorem set5_full {w : World} {g : Nat} {T : TypeId} {c0 c1 c2 c3 c4 : Value} (h : Blk w g T #[c0, c1, c2, c3, c4]) (a b c d e : Value) : Blk (set5 w g 0 a b c d e) g T #[a, b, c, d, e] := by
 obtain ⟨cur', h1, h2⟩ := set5_blk h 0 a b c d e (by simp)
 have : cur' = #[a, b, c, d, e] := by
  apply Array.toList_inj.1
  simpa using h2
 rw [← this]; exact h1
theorem VAt.fields {w : World} {S : BS} {base : Nat} {ov : Value} {o : List F} (h : Own EField w base TFIELD S ov o) : VAt w (fun _ => True) (.agg #[.int .u8 5, .int .i64 0, .string ⟨#[]⟩, .slice none 0 0, ov]) (.mk 5 0 ⟨#[]⟩ [] o) :=
 ⟨_, _, rfl, Sl.nil _ _, (h.sl EField.ok).more EField.ok fun _ _ _ => trivial⟩
set_option maxRecDepth 100000 in
theorem pval_ok (w : World) (S S2 : BS) (u fv : Value) (v : V) (fs : List ByteArray) (hv : VAt w S u v) (hsz : v.size ≤ 1000000) (hs : Sl EStr w S2 fv fs) :
  Calls Tryd.prog 17 #[u, fv] w (ProjIs w (projV v fs)) := by
 have HV := hid hv
 have HSZ := hid hsz
 have HS := hid (hs.more EStr.ok (S' := fun q => q < w.heap.size) fun k hk _ => hk)
 obtain ⟨lv, ov, rfl, hl, ho⟩ := hv
 obtain ⟨A, c, rfl, hlc, hcm⟩ := hl.shape
 obtain ⟨A', c', rfl, hlc', hcm'⟩ := ho.shape
 obtain ⟨B, d, rfl, _, _⟩ := hs.shape
 clear hl ho hs hsz
 obtain ⟨W0, hW0⟩ : ∃ W0, ((w.alloc (.cells #[U8 v.kind, .int .i64 v.n, .string v.s, .slice A v.l.length c, .slice A' v.o.length c'] TVAL)).alloc (.cells #[.slice B fs.length d] 23)).alloc (.cells #[.int .u8 0, .int .i64 0, .string ⟨#[]⟩, .slice none 0 0, .slice none 0 0] TVAL) = W0 := ⟨_, rfl⟩
 have hE0 : Ext w W0 := by rw [← hW0]; exact (((Keep.refl _ _).alloc _).alloc _).alloc _
 have hb0 : Blk W0 w.heap.size TVAL #[U8 v.kind, .int .i64 v.n, .string v.s, .slice A v.l.length c, .slice A' v.o.length c'] := by rw [← hW0]; exact ((Blk.new _ _ _).alloc _).alloc _
 have hb1 : Blk W0 (w.heap.size + 1) 23 #[.slice B fs.length d] := by
  have := Blk.new (w.alloc (.cells #[U8 v.kind, .int .i64 v.n, .string v.s, .slice A v.l.length c, .slice A' v.o.length c'] TVAL)) 23 #[.slice B fs.length d]
  rw [World.size_alloc] at this
  rw [← hW0]; exact this.alloc _
 have hb2 : Blk W0 (w.heap.size + 1 + 1) TVAL #[.int .u8 0, .int .i64 0, .string ⟨#[]⟩, .slice none 0 0, .slice none 0 0] := by
  have := Blk.new ((w.alloc (.cells #[U8 v.kind, .int .i64 v.n, .string v.s, .slice A v.l.length c, .slice A' v.o.length c'] TVAL)).alloc (.cells #[.slice B fs.length d] 23)) TVAL #[.int .u8 0, .int .i64 0, .string ⟨#[]⟩, .slice none 0 0, .slice none 0 0]
  rw [World.size_alloc, World.size_alloc] at this
  rw [← hW0]; exact this
 have hz0 : W0.heap.size = w.heap.size + 3 := by rw [← hW0]; simp
 have HE0 := hid hE0
 have HB1 := hid hb1
 have HB2 := hid hb2
 have HZ0 := hid hz0
 have p0 := hb0.cell 0
 have p1 := hb0.cell 1
 have p2 := hb0.cell 2
 have p3 := hb0.cell 3
 have p4 := hb0.cell 4
 have z0 := hb2.cell 0
 have z1 := hb2.cell 1
 have z2 := hb2.cell 2
 have z3 := hb2.cell 3
 have z4 := hb2.cell 4
 simp only [List.getElem?_toArray, List.getElem?_cons_succ, List.getElem?_cons_zero] at p0 p1 p2 p3 p4 z0 z1 z2 z3 z4
 have hfz := hb2.frozen
 clear hE0 hb0 hb1 hb2 hz0
 by_cases hk : v.kind = 5
 ·have hkX : ((v.kind.toNat : Int) != 5) = false := by rw [hk]; rfl
  have HK := hid hk
  clear hk hfz z0 z1 z2 z3 z4
  go_enter Tryd.func17, Tryd.ntmps17
  go_wp2_with fail
  clear hW0
  refine (copy_valT 1000000 v HSZ.out (Nat.le_refl _) _ S _ (HV.out.ext HE0.out)).mono ?_
  rintro e w1 ⟨lv1, ov1, rfl, htv, hE1⟩
  obtain ⟨⟨A1, d1, rfl⟩, ⟨A2, d2, rfl⟩⟩ := htv.shapes
  have HTV := hid htv
  have HE1 := hid hE1
  clear htv hE1 p0 p1 p2 p3 p4
  obtain ⟨W3, hW3⟩ : ∃ W3, w1.alloc (.cells #[.int .u8 v.kind.toNat, .int .i64 0, .string ⟨#[]⟩, .slice none 0 0, .slice A2 v.o.length d2] TVAL) = W3 := ⟨_, rfl⟩
  have hE3 : Ext w1 W3 := by rw [← hW3]; exact (Keep.refl _ _).alloc _
  have HT := hid (show Blk W3 w1.heap.size TVAL #[.int .u8 v.kind.toNat, .int .i64 0, .string ⟨#[]⟩, .slice none 0 0, .slice A2 v.o.length d2] from by rw [← hW3]; exact Blk.new _ _ _)
  have HE3 := hid hE3
  have s0 := HT.out.cell 0
  have s1 := HT.out.cell 1
  have s2 := HT.out.cell 2
  have s3 := HT.out.cell 3
  have s4 := HT.out.cell 4
  simp only [List.getElem?_toArray, List.getElem?_cons_succ, List.getElem?_cons_zero] at s0 s1 s2 s3 s4
  clear hE3
  go_wp2_with fail
  clear s0 s1 s2 s3 s4
  obtain ⟨a1, ha1, hown, hq⟩ := HTV.out.own
  have hsz1 := HE1.out.size
  have hsz0 := HZ0.out
  have hB1 := ((HB1.out.keep HE1.out id).keep HE3.out id)
  have hB2 := ((HB2.out.keep HE1.out id).keep HE3.out id)
  have h1 : W3.cell? ⟨w.heap.size + 1, 0, none⟩ = some (.slice B fs.length d) := hB1.cell 0
  refine (delfunc_ok W3 W0.heap.size (fun q => a1 ≤ q ∧ q < w1.heap.size) (fun q => q < w.heap.size) _ v.o (w.heap.size + 1) fs _ (hown.ext EField.ok HE3.out) (fun q h => ⟨by have := hq q h; omega, by have := hq q h; omega, by have := hq q h; omega⟩) h1 (((HS.out.ext EStr.ok HE0.out).ext EStr.ok HE1.out).ext EStr.ok HE3.out)).mono ?_
  rintro e w4 ⟨v', rfl, hown', hqq, hK⟩
  obtain ⟨A3, c3, rfl, _⟩ := hown'.shape
  have HOW := hid hown'
  have HK4 := hid hK
  have hT := HT.out.keep hK (fun h => by have := hq _ h; omega)
  have hR := hB2.keep hK (fun h => by have := hq _ h; omega)
  have HT4 := hid hT
  have HR4 := hid hR
  have HKW := hid (show Keep (fun k => w.heap.size ≤ k) w w4 from ((((Keep.refl (fun k => w.heap.size ≤ k) w).ext HE0.out).ext HE1.out).ext HE3.out).trans hK fun k _ h => by have := hq _ h; omega)
  have HQ := hid (fun q h => hq q (hqq q h))
  have HA1 := hid ha1
  have HS1 := hid hsz1
  have t0 := hT.cell 0
  have t1 := hT.cell 1
  have t2 := hT.cell 2
  have t3 := hT.cell 3
  have t4 := hT.cell 4
  have z0 := hR.cell 0
  have z1 := hR.cell 1
  have z2 := hR.cell 2
  have z3 := hR.cell 3
  have z4 := hR.cell 4
  simp only [List.getElem?_toArray, List.getElem?_cons_succ, List.getElem?_cons_zero] at t0 t1 t2 t3 t4 z0 z1 z2 z3 z4
  have hft := hT.frozen
  have hfz := hR.frozen
  have hne : ¬ w1.heap.size = w.heap.size + 1 + 1 := by omega
  have hne2 : ¬ w.heap.size + 1 + 1 = w1.heap.size := by omega
  clear ha1 hqq hown hq hsz1 hsz0 hB1 hB2 h1 hown' hK hT hR hW3
  go_wp2_with fail
  have HY := hid (show (v.kind.toNat : Int) = 5 by rw [HK.out]; rfl)
  generalize hX : (Value.slice A3 (v.o.filter fun f => !goes fs f).length c3) = X at *
  obtain ⟨Wf, hWf⟩ : ∃ Wf, set5 (w4.setCell ⟨w1.heap.size, 4, none⟩ X) (w.heap.size + 1 + 1) 0 (.int .u8 v.kind.toNat) (.int .i64 0) (.string ⟨#[]⟩) (.slice none 0 0) X = Wf := ⟨_, rfl⟩
  change bodyPost _ _ _ _ _ (set5 (w4.setCell ⟨w1.heap.size, 4, none⟩ X) (w.heap.size + 1 + 1) 0 (.int .u8 v.kind.toNat) (.int .i64 0) (.string ⟨#[]⟩) (.slice none 0 0) X)
  have hka : Keep (· = w1.heap.size) w4 (w4.setCell ⟨w1.heap.size, 4, none⟩ X) := (Keep.refl _ _).set1 4 X
  have hf := set5_full (HR4.out.keep hka hne2) (.int .u8 v.kind.toNat) (.int .i64 0) (.string ⟨#[]⟩) (.slice none 0 0) X
  have hk := set5_keep (w4.setCell ⟨w1.heap.size, 4, none⟩ X) (w.heap.size + 1 + 1) 0 (.int .u8 v.kind.toNat) (.int .i64 0) (.string ⟨#[]⟩) (.slice none 0 0) X
  rw [hWf] at hf hk ⊢
  rw [HY.out] at hf
  have f0 := hf.cell 0
  have f1 := hf.cell 1
  have f2 := hf.cell 2
  have f3 := hf.cell 3
  have f4 := hf.cell 4
  simp only [List.getElem?_toArray, List.getElem?_cons_succ, List.getElem?_cons_zero] at f0 f1 f2 f3 f4
  have hs0 := HZ0.out
  have ha1 := HA1.out
  have hs1 := HS1.out
  have hKW : Ext w Wf := ((HKW.out.trans hka fun k _ h => by omega).trans hk fun k _ h => by omega).mono fun k h1 h2 => by omega
  refine bodyPost_ret (v := .agg #[.int .u8 5, .int .i64 0, .string ⟨#[]⟩, .slice none 0 0, X]) (by simp [results, Tryd.results17, go_sem, f0, f1, f2, f3, f4]) rfl ⟨_, rfl, ?_, hKW⟩
  rw [projV, if_pos HK.out]
  have hoa := HOW.out.keep EField.ok (hka) (fun q h e => by omega) (fun q h e => by have := HQ.out q h; omega)
  exact VAt.fields (hoa.keep EField.ok hk (fun q h e => by omega) (fun q h e => by have := (HOW.out.lt h).1; omega))
 ·have hkX : ((v.kind.toNat : Int) != 5) = true := by
   have : v.kind.toNat ≠ 5 := fun e => hk (UInt8.toNat_inj.1 (by simpa using e))
   simp; omega
  have HK := hid hk
  clear hk
  go_enter Tryd.func17, Tryd.ntmps17
  go_wp2_with fail
  obtain ⟨Wf, hWf⟩ : ∃ Wf, set5 W0 (w.heap.size + 1 + 1) 0 (.int .u8 0) (.int .i64 0) (.string ⟨#[]⟩) (.slice none 0 0) (.slice none 0 0) = Wf := ⟨_, rfl⟩
  change bodyPost _ _ _ _ _ (set5 W0 (w.heap.size + 1 + 1) 0 (.int .u8 0) (.int .i64 0) (.string ⟨#[]⟩) (.slice none 0 0) (.slice none 0 0))
  have hf := set5_full HB2.out (.int .u8 0) (.int .i64 0) (.string ⟨#[]⟩) (.slice none 0 0) (.slice none 0 0)
  have hk := set5_keep W0 (w.heap.size + 1 + 1) 0 (.int .u8 0) (.int .i64 0) (.string ⟨#[]⟩) (.slice none 0 0) (.slice none 0 0)
  rw [hWf] at hf hk ⊢
  have f0 := hf.cell 0
  have f1 := hf.cell 1
  have f2 := hf.cell 2
  have f3 := hf.cell 3
  have f4 := hf.cell 4
  simp only [List.getElem?_toArray, List.getElem?_cons_succ, List.getElem?_cons_zero] at f0 f1 f2 f3 f4
  have hKW : Ext w Wf := (((Keep.refl (fun k => w.heap.size ≤ k) w).ext HE0.out).trans hk fun k _ h => by omega).mono fun k h1 h2 => by omega
  refine bodyPost_ret (v := .agg #[.int .u8 0, .int .i64 0, .string ⟨#[]⟩, .slice none 0 0, .slice none 0 0]) (by simp [results, Tryd.results17, go_sem, f0, f1, f2, f3, f4]) rfl ⟨_, rfl, ?_, hKW⟩
  rw [projV, if_neg HK.out]
  exact ⟨_, _, rfl, Sl.nil _ _, Sl.nil _ _⟩
def inB (fs : List ByteArray) (k : ByteArray) : Bool := fs.any fun f => f.toList == k.toList
theorem inB_among (fs : List ByteArray) (k : ByteArray) : inB fs k = amongL fs k := by
 unfold inB amongL
 congr 1
 funext f
 exact Bool.eq_iff_iff.2 (by simp only [beq_iff_eq]; exact eq_comm)
theorem inB_snoc {fs : List ByteArray} {k : ByteArray} {j : Nat} (h : j < fs.length) : inB (fs.take (j + 1)) k = (inB (fs.take j) k || ((fs[j]'h).toList == k.toList)) := by
 rw [take_succ_get _ _ h]; unfold inB; rw [List.any_append]; simp
def othersV (v : V) (fs : List ByteArray) : V := .mk 5 0 ⟨#[]⟩ [] (v.o.filter fun f => !inB fs f.key)
def touchL (fs : List ByteArray) (c : Cp) : Bool := match c.path with
 | s :: _ => !s.list && amongL fs s.key
 | [] => if c.kind = 2 ∨ c.kind = 3 then amongL fs c.key else false
theorem touches_ok (w : World) (S S2 : BS) (u fv : Value) (c : Cp) (fs : List ByteArray) (hc : CAt w S u c) (hs : Sl EStr w S2 fv fs) :
  Calls Tryd.prog 44 #[u, fv] w fun e w' => e = .returned (.bool (touchL fs c)) ∧ Ext w w' := by
 obtain ⟨pv, lv, ov, rfl, h1, h2, h3⟩ := hc
 obtain ⟨Ap, cp, rfl, hp1, hp2⟩ := h1.shape
 obtain ⟨Al, cl, rfl, _⟩ := h2.shape
 obtain ⟨Ao, co, rfl, _⟩ := h3.shape
 obtain ⟨Af, cf, rfl, _⟩ := hs.shape
 unfold maxLen at hp2
 obtain ⟨W, hW⟩ : ∃ W, w.alloc (.cells (cpCells c (.slice Ap c.path.length cp) (.slice Al c.v.l.length cl) (.slice Ao c.v.o.length co)) TCMP) = W := ⟨_, rfl⟩
 have hE : Ext w W := by rw [← hW]; exact (Keep.refl _ _).alloc _
 have hcb : Blk W w.heap.size TCMP (cpCells c (.slice Ap c.path.length cp) (.slice Al c.v.l.length cl) (.slice Ao c.v.o.length co)) := by rw [← hW]; exact Blk.new _ _ _
 have HS := hid (hs.ext EStr.ok hE)
 have HP := hid (h1.ext ESt.ok hE)
 have HE := hid hE
 obtain ⟨x0, x1, x2, x3, x4, x5, x6, x7, x8, x9, x10, x11⟩ := sq12 hcb
 clear h1 h2 h3 hs hcb hE
 obtain ⟨np, hnp⟩ : ∃ np, c.path.length = np := ⟨_, rfl⟩
 have HNP := hid hnp
 obtain ⟨pl, hpath⟩ : ∃ pl, c.path = pl := ⟨_, rfl⟩
 rw [hnp] at x1 hp1 hW ⊢
 cases pl with
 | nil =>
  have h0 : np = 0 := by rw [← hnp, hpath]; rfl
  have hnX : ¬ (0 : Int) < (np : Int) := by omega
  have hT : touchL fs c = if c.kind = 2 ∨ c.kind = 3 then amongL fs c.key else false := by unfold touchL; rw [hpath]
  have HT := hid hT
  clear hT hnp hpath h0 HP
  by_cases k2 : c.kind = 2
  ·have hT2 := hid (show touchL fs c = amongL fs c.key from by rw [HT.out, if_pos (.inl k2)])
   have hkX : ((c.kind.toNat : Int) == 2) = true := by rw [k2]; rfl
   clear k2 HT
   go_enter Tryd.func44, Tryd.ntmps44
   go_wp2_with fail
   refine (among_ok _ _ _ fs c.key HS.out).mono ?_
   rintro e w2 ⟨rfl, hE2⟩
   go_wp2
   go_ret
   exact ⟨by rw [hT2.out]; rfl, HE.out.ext hE2⟩
  ·have hkX : ((c.kind.toNat : Int) == 2) = false := by
    have : ¬ c.kind.toNat = 2 := fun h => k2 (UInt8.toNat_inj.1 h)
    simp; omega
   by_cases k3 : c.kind = 3
   ·have hT2 := hid (show touchL fs c = amongL fs c.key from by rw [HT.out, if_pos (.inr k3)])
    have hkY : ((c.kind.toNat : Int) == 3) = true := by rw [k3]; rfl
    clear k2 k3 HT
    go_enter Tryd.func44, Tryd.ntmps44
    go_wp2_with fail
    refine (among_ok _ _ _ fs c.key HS.out).mono ?_
    rintro e w2 ⟨rfl, hE2⟩
    go_wp2
    go_ret
    exact ⟨by rw [hT2.out]; rfl, HE.out.ext hE2⟩
   ·have hT2 := hid (show touchL fs c = false from by rw [HT.out, if_neg (fun h => h.elim k2 k3)])
    have hkY : ((c.kind.toNat : Int) == 3) = false := by
     have : ¬ c.kind.toNat = 3 := fun h => k3 (UInt8.toNat_inj.1 h)
     simp; omega
    clear k2 k3 HT
    go_enter Tryd.func44, Tryd.ntmps44
    go_wp2
    go_ret
    exact ⟨by rw [hT2.out]; rfl, HE.out⟩
 | cons s r =>
  have h0 : 0 < np := by rw [← hnp, hpath]; simp
  have hnX : (0 : Int) < (np : Int) := by omega
  have hT := hid (show touchL fs c = (!s.list && amongL fs s.key) from by unfold touchL; rw [hpath])
  have hp0 : 0 < c.path.length := by rw [hnp]; exact h0
  obtain ⟨bp, op, c0, e0, _, _, hrd, hcell⟩ := HP.out.at_ ESt.ok hp0
  have hc0 : c.path[0] = s := by simp [hpath]
  rw [hc0] at hrd
  have hrd : c0 = [.bool s.list, .int .i64 s.i, .string s.key] := hrd
  subst e0 hrd
  have g0 := hcell 0 _ rfl
  have g1 := hcell 1 _ rfl
  have g2 := hcell 2 _ rfl
  have e3 : ESt.size = 3 := rfl
  simp only [e3, Nat.zero_mul, Nat.add_zero] at g0 g1 g2
  clear hcell e3 hnp hpath hc0 hp0 HP
  obtain ⟨sl, si, sk⟩ := s
  simp only at g0 g1 g2 hT
  cases sl with
  | true =>
   go_enter Tryd.func44, Tryd.ntmps44
   go_wp2
   go_ret
   exact ⟨by rw [hT.out]; rfl, HE.out⟩
  | false =>
   go_enter Tryd.func44, Tryd.ntmps44
   go_wp2_with fail
   refine (among_ok _ _ _ fs sk HS.out).mono ?_
   rintro e w2 ⟨rfl, hE2⟩
   go_wp2
   go_ret
   exact ⟨by rw [hT.out]; rfl, HE.out.ext hE2⟩
abbrev clwC (b : Nat) : Value := .func (.func 49) #[] #[.pointer (some ⟨b, 0, none⟩)]
def goesC (fs : List ByteArray) (c : Cp) : Bool := !touchL fs c
def StayC (fs : List ByteArray) (o : List Cp) (k : Nat) : Prop := ∀ i (hi : i < o.length), i < k → goesC fs (o[i]'hi) = false
def GoesC (fs : List ByteArray) (o : List Cp) (k : Nat) : Prop := ∃ hk : k < o.length, goesC fs (o[k]'hk) = true
theorem with2_ok (w : World) (b : Nat) (fs : List ByteArray) (fv : Value) (S S2 : BS) (u : Value) (c : Cp) (h : w.cell? ⟨b, 0, none⟩ = some fv) (hs : Sl EStr w S fv fs) (hc : CAt w S2 u c) :
  Calls Tryd.prog 49 #[u, .pointer (some ⟨b, 0, none⟩)] w fun e w' => e = .returned (.bool (goesC fs c)) ∧ Ext w w' := by
 obtain ⟨A, cc, rfl, hlc, hcm⟩ := hs.shape
 obtain ⟨pv, lv, ov, rfl, h1, h2, h3⟩ := hc
 obtain ⟨Ap, cp, rfl, _⟩ := h1.shape
 obtain ⟨Al, cl, rfl, _⟩ := h2.shape
 obtain ⟨Ao, co, rfl, _⟩ := h3.shape
 have hlt := lt_of_cell h
 obtain ⟨W, hW⟩ : ∃ W, w.alloc (.cells (cpCells c (.slice Ap c.path.length cp) (.slice Al c.v.l.length cl) (.slice Ao c.v.o.length co)) TCMP) = W := ⟨_, rfl⟩
 have hE : Ext w W := by rw [← hW]; exact (Keep.refl _ _).alloc _
 have hcb : Blk W w.heap.size TCMP (cpCells c (.slice Ap c.path.length cp) (.slice Al c.v.l.length cl) (.slice Ao c.v.o.length co)) := by rw [← hW]; exact Blk.new _ _ _
 have HS := hid (hs.ext EStr.ok hE)
 have HE := hid hE
 have HC := hid (show CAt W S2 (.agg (cpCells c (.slice Ap c.path.length cp) (.slice Al c.v.l.length cl) (.slice Ao c.v.o.length co))) c from ⟨_, _, _, rfl, h1.ext ESt.ok hE, h2.ext EVal.ok hE, h3.ext EField.ok hE⟩)
 have hb := (hE.cell hlt id).trans h
 obtain ⟨x0, x1, x2, x3, x4, x5, x6, x7, x8, x9, x10, x11⟩ := sq12 hcb
 clear h1 h2 h3 hs hcb hE h
 go_enter Tryd.func49, Tryd.ntmps49
 go_wp2_with fail
 refine (touches_ok W _ _ _ _ c fs HC.out HS.out).mono ?_
 rintro e w2 ⟨rfl, hE2⟩
 have HE2 := hid (HE.out.ext hE2)
 clear hE2 hW
 go_wp2
 go_ret
 exact ⟨rfl, HE2.out⟩
theorem windex_comp (w : World) (S : BS) (v : Value) (o : List Cp) (b : Nat) (fs : List ByteArray) (fv : Value) (S2 : BS) (h : Sl ECp w S v o) (hb : w.cell? ⟨b, 0, none⟩ = some fv) (hs : Sl EStr w S2 fv fs) :
  Calls Tryd.prog 63 #[v, clwC b] w fun e w' =>
   ((e = .returned (.int .i64 (-1)) ∧ StayC fs o o.length) ∨ ∃ k : Nat, e = .returned (.int .i64 (k : Int)) ∧ StayC fs o k ∧ GoesC fs o k) ∧ Ext w w' := by
 obtain ⟨A, c, rfl, hlc, hcm⟩ := h.shape
 unfold maxLen at hcm
 have hblt := lt_of_cell hb
 have HA := hid h
 have HS := hid hs
 generalize hn : o.length = n at *
 have HN := hid hn
 clear h hn hs
 go_enter Tryd.func63, Tryd.ntmps63
 go_wp2
 go_loopw [8] (fun i wr => ∃ j : Nat, j ≤ n ∧ i = .int .i64 j ∧ StayC fs o j ∧ Ext w wr) (fun i _ => n - (intOf i).toNat)
 case atStart => exact ⟨0, by omega, rfl, fun i _ h => by omega, Keep.refl _ _⟩
 case round =>
  obtain ⟨j, hj, rfl, hfl, hEj⟩ := hrel
  have HF := hid hfl
  clear hfl
  by_cases hlt : j < n
  ·have hjm : j < o.length := by rw [HN.out]; exact hlt
   obtain ⟨b1, o1, c0, rfl, _, _, ⟨pv, lv, ov, rfl, h1, h2, h3⟩, hcell⟩ := (HA.out.ext ECp.ok hEj).at_ ECp.ok hjm
   generalize hm : o[j]'hjm = m at *
   obtain ⟨Ap, cp, rfl, _⟩ := h1.shape
   obtain ⟨Al, cl, rfl, _⟩ := h2.shape
   obtain ⟨Ao, co, rfl, _⟩ := h3.shape
   have HC := hid (show CAt wr S (.agg (cpCells m (.slice Ap m.path.length cp) (.slice Al m.v.l.length cl) (.slice Ao m.v.o.length co))) m from ⟨_, _, _, rfl, h1, h2, h3⟩)
   have e0 := hcell 0 _ rfl
   have e1 := hcell 1 _ rfl
   have e2 := hcell 2 _ rfl
   have e3 := hcell 3 _ rfl
   have e4 := hcell 4 _ rfl
   have e5 := hcell 5 _ rfl
   have e6 := hcell 6 _ rfl
   have e7 := hcell 7 _ rfl
   have e8 := hcell 8 _ rfl
   have e9 := hcell 9 _ rfl
   have e10 := hcell 10 _ rfl
   have e11 := hcell 11 _ rfl
   have hz : ECp.size = 12 := rfl
   simp only [hz, Nat.add_zero] at e0 e1 e2 e3 e4 e5 e6 e7 e8 e9 e10 e11
   have hbj := (hEj.cell hblt id).trans hb
   have HM := hid hm
   have HSJ := hid (HS.out.ext EStr.ok hEj)
   clear hz hcell h1 h2 h3 hm
   obtain ⟨p, hp⟩ : ∃ p : Bool, goesC fs m = p := ⟨_, rfl⟩
   go_wp2_with fail
   refine (with2_ok _ _ fs _ _ _ _ m hbj HSJ.out HC.out).mono ?_
   rintro e w2 ⟨rfl, hE2⟩
   rw [show goesC fs m = p from hp]
   have HE := hid (hEj.ext hE2)
   have HP := hid hp
   clear hE2 hEj hp e0 e1 e2 e3 e4 e5 e6 e7 e8 e9 e10 e11
   cases p with
   | true =>
    go_wp2
    go_ret
    exact ⟨.inr ⟨j, rfl, HF.out, hjm, by rw [HM.out]; exact HP.out⟩, HE.out⟩
   | false =>
    go_wp2
    go_roundw
    case rel =>
     refine ⟨j + 1, by omega, by go_num, fun i hi hij => ?_, HE.out⟩
     rcases Nat.lt_or_ge i j with h | h
     ·exact HF.out i hi h
     ·obtain rfl : i = j := by omega
      rw [HM.out]; exact HP.out
    case measure => simp [intOf]; omega
  ·obtain rfl : j = n := by omega
   have HE := hid hEj
   clear hEj
   go_wp2
   go_ret
   exact ⟨.inl ⟨rfl, HF.out⟩, HE.out⟩
theorem wcontains_comp (w : World) (S : BS) (v : Value) (o : List Cp) (b : Nat) (fs : List ByteArray) (fv : Value) (S2 : BS) (h : Sl ECp w S v o) (hb : w.cell? ⟨b, 0, none⟩ = some fv) (hs : Sl EStr w S2 fv fs) :
  Calls Tryd.prog 48 #[v, clwC b] w fun e w' => e = .returned (.bool (o.any (goesC fs))) ∧ Ext w w' := by
 have HI := hid (windex_comp w S v o b fs fv S2 h hb hs)
 obtain ⟨A, c, rfl, hlc, hcm⟩ := h.shape
 clear h
 go_enter Tryd.func48, Tryd.ntmps48
 go_wp2_with fail
 refine HI.out.mono ?_
 rintro e w2 ⟨⟨rfl, hst⟩ | ⟨k, rfl, hst, hg⟩, hE⟩
 ·have HE := hid hE
  have HR := hid (show o.any (goesC fs) = false from by
   rw [List.any_eq_false]
   intro f hf
   obtain ⟨i, hi, rfl⟩ := List.getElem_of_mem hf
   simp [hst i hi hi])
  clear hE hst
  go_wp2
  go_ret
  exact ⟨by rw [HR.out]; rfl, HE.out⟩
 ·have HE := hid hE
  have HR := hid (show o.any (goesC fs) = true from by
   obtain ⟨hk, hg⟩ := hg
   exact List.any_eq_true.2 ⟨_, List.getElem_mem hk, hg⟩)
  have hk : ¬ ((k : Int) < 0) := by omega
  have hk2 : decide ((0 : Int) ≤ k) = true := by simp
  clear hE hst hg
  go_wp2
  go_ret
  exact ⟨by rw [HR.out]; first | rfl | simp, HE.out⟩
abbrev TENT : Nat := 45
theorem within_edit (w : World) (S S2 : BS) (c1 c2 v0 v1 v2 v3 v4 ov fv : Value) (cs : List Cp) (fs : List ByteArray) (ho : Sl ECp w S ov cs) (hs : Sl EStr w S2 fv fs) :
  Calls Tryd.prog 22 #[.agg #[.int .u8 2, c1, c2, v0, v1, v2, v3, v4, ov], fv] w fun e w' => e = .returned (.bool (!cs.any (goesC fs))) ∧ Ext w w' := by
 obtain ⟨A, c, rfl, hlc, hcm⟩ := ho.shape
 obtain ⟨Af, cf, rfl, _⟩ := hs.shape
 obtain ⟨W, hW⟩ : ∃ W, (w.alloc (.cells #[.int .u8 2, c1, c2, v0, v1, v2, v3, v4, .slice A cs.length c] TENT)).alloc (.cells #[.slice Af fs.length cf] 23) = W := ⟨_, rfl⟩
 have hE : Ext w W := by rw [← hW]; exact ((Keep.refl _ _).alloc _).alloc _
 have hb : Blk W w.heap.size TENT #[.int .u8 2, c1, c2, v0, v1, v2, v3, v4, .slice A cs.length c] := by rw [← hW]; exact (Blk.new _ _ _).alloc _
 have hf : Blk W (w.heap.size + 1) 23 #[.slice Af fs.length cf] := by
  have := Blk.new (w.alloc (.cells #[.int .u8 2, c1, c2, v0, v1, v2, v3, v4, .slice A cs.length c] TENT)) 23 #[.slice Af fs.length cf]
  rw [World.size_alloc, hW] at this
  exact this
 have HO := hid (ho.ext ECp.ok hE)
 have HS := hid (hs.ext EStr.ok hE)
 have HE := hid hE
 have x0 := hb.cell 0
 have x8 := hb.cell 8
 have f0 := hf.cell 0
 simp at x0 x8 f0
 clear ho hs hE hb hf
 go_enter Tryd.func22, Tryd.ntmps22
 go_wp2_with fail
 refine (wcontains_comp W _ _ cs _ fs _ _ HO.out f0 HS.out).mono ?_
 rintro e w2 ⟨rfl, hE2⟩
 go_wp2
 go_ret
 exact ⟨rfl, HE.out.ext hE2⟩
def partP (p : ByteArray → Bool) (v : V) : V := .mk 5 0 ⟨#[]⟩ [] (v.o.filter fun f => p f.key)
theorem projV_part {v : V} (hk : v.kind = 5) (fs : List ByteArray) : projV v fs = partP (amongL fs) v := by
 rw [projV, if_pos hk, partP]
 congr 1
 refine List.filter_congr fun f _ => ?_
 unfold goes; simp
theorem othersV_part (v : V) (fs : List ByteArray) : othersV v fs = partP (fun k => !amongL fs k) v := by
 unfold othersV partP
 congr 1
 refine List.filter_congr fun f _ => ?_
 rw [inB_among]
def touP (p : ByteArray → Bool) (c : Cp) : Bool := match c.path with
 | s :: _ => !s.list && p s.key
 | [] => if c.kind = 2 ∨ c.kind = 3 then p c.key else false
theorem touchL_tou (fs : List ByteArray) (c : Cp) : touchL fs c = touP (amongL fs) c := by
 unfold touchL touP; cases c.path <;> rfl
theorem lk_part (p : ByteArray → Bool) (K : ByteArray) : ∀ o : List F, lk K (o.filter fun f => p f.key) = if p K = true then lk K o else none
 | [] => by simp [lk]
 | f :: o => by
  have ih := lk_part p K o
  rw [List.filter_cons]
  by_cases hp : p f.key = true
  ·rw [if_pos hp]
   by_cases e : f.key = K
   ·rw [lk_eq K f _ e, lk_eq K f _ e, if_pos (by rw [← e]; exact hp)]
   ·rw [lk_ne K f _ e, lk_ne K f _ e, ih]
  ·rw [if_neg hp, ih]
   by_cases e : f.key = K
   ·rw [if_neg (by rw [← e]; exact hp), if_neg (by rw [← e]; exact hp)]
   ·rw [lk_ne K f _ e]
theorem part_eq {p : ByteArray → Bool} {v : V} {w : V} (hv : Rise v.o) (hw : Rise w.o) (h5 : w.kind = 5 ∧ w.n = 0 ∧ w.s = ⟨#[]⟩ ∧ w.l = []) (h : ∀ K, (if p K = true then lk K v.o else none) = lk K w.o) : partP p v = w := by
 obtain ⟨h1, h2, h3, h4⟩ := h5
 refine V.ext5 h1.symm h2.symm h3.symm h4.symm ?_
 exact lk_inj (rise_filter _ hv) hw fun K => by rw [show (partP p v).o = v.o.filter fun f => p f.key from rfl, lk_part]; exact h K
theorem SV.obj {v : V} (h : SV v) (hk : v.kind = 5) : v.n = 0 ∧ v.s = ⟨#[]⟩ ∧ v.l = [] ∧ Rise v.o := by
 have hs := (SV_iff v).1 h
 refine ⟨?_, ?_, ?_, hs.2.2.2⟩ <;>
 ·rcases hs.1 with q | q | q | q | q | q <;> first | (rw [hk] at q; exact absurd q.1 (by decide)) | exact q.2.1 | exact q.2.2.1 | exact q.2.2.2
theorem partP_form (p : ByteArray → Bool) (v : V) : (partP p v).kind = 5 ∧ (partP p v).n = 0 ∧ (partP p v).s = ⟨#[]⟩ ∧ (partP p v).l = [] := ⟨rfl, rfl, rfl, rfl⟩
theorem part_step (p : ByteArray → Bool) {v z : V} {c : Cp} (hv : SV v) (hk : v.kind = 5) (hz : SV z) (h : PDo v c z) : z.kind = 5 ∧ (if touP p c = true then PDo (partP p v) c (partP p z) else partP p z = partP p v) := by
 obtain ⟨vn, vs, vl, vr⟩ := hv.obj hk
 unfold PDo at h
 cases hp : c.path with
 | nil =>
  rw [hp] at h
  obtain ⟨hc, rfl⟩ := h.here_eq
  obtain ⟨_, hk2⟩ := hc.k5 hk
  have hk23 : c.kind = 2 ∨ c.kind = 3 := hk2.imp id fun h => h.1
  have hd := doX_23 (x := v) hk23
  have hz5 : (doX v c).kind = 5 := by rw [hd]; exact hk
  have ho : (doX v c).o = fldR (.mk c.key c.v) (c.kind.toNat == 3) v.o := by rw [hd]; rfl
  have hzr := (hz.obj hz5).2.2.2
  have hlz : ∀ K, lk K (doX v c).o = if c.key = K then (if (c.kind.toNat == 3) = true then none else some c.v) else lk K v.o := fun K => by rw [ho, lk_fldR]; rfl
  have ht : touP p c = p c.key := by unfold touP; rw [hp]; simp only [if_pos hk23]
  refine ⟨hz5, ?_⟩
  rw [ht]
  by_cases hpk : p c.key = true
  ·rw [if_pos hpk]
   have hcan : CanX (partP p v) c := .inr (.inr (.inr ⟨rfl, rise_filter _ vr, hk2.imp id fun h => ⟨h.1, by
    rw [show (partP p v).o = v.o.filter fun f => p f.key from rfl, fieldIs_lk (rise_filter _ vr), lk_part, if_pos hpk, ← fieldIs_lk vr]; exact h.2⟩⟩))
   have he : partP p (doX v c) = doX (partP p v) c := by
    rw [doX_23 (x := partP p v) hk23]
    refine part_eq hzr (fldR_rise _ _ _ (rise_filter _ vr)) ⟨rfl, rfl, rfl, rfl⟩ fun K => ?_
    rw [hlz, show (withO (partP p v) (fldR (.mk c.key c.v) (c.kind.toNat == 3) (partP p v).o)).o = fldR (.mk c.key c.v) (c.kind.toNat == 3) (v.o.filter fun f => p f.key) from rfl, lk_fldR, lk_part]
    show _ = if c.key = K then _ else _
    by_cases e : c.key = K
    ·subst e; rw [if_pos rfl, if_pos rfl, if_pos hpk]; rfl
    ·rw [if_neg e, if_neg e]
   show LDo (partP p v) c.path c _
   rw [hp, he]
   exact LDo.here hcan
  ·rw [if_neg hpk]
   refine part_eq hzr (rise_filter _ vr) (partP_form p v) fun K => ?_
   rw [hlz, show (partP p v).o = v.o.filter fun f => p f.key from rfl, lk_part]
   by_cases e : c.key = K
   ·subst e; rw [if_neg hpk, if_neg hpk]
   ·rw [if_neg e]
 | cons s q =>
  rw [hp] at h
  obtain ⟨loc, y, y', h1, h2, h3, rfl⟩ := h.step
  have hl : s.list = false := by
   cases e : s.list with
   | false => rfl
   | true =>
    rw [stepV_l e] at h1
    rw [if_neg (by rw [hk]; rintro ⟨h, _⟩; exact absurd h (by decide))] at h1
    cases h1
  obtain ⟨_, hlk⟩ := step_lk vr hl h1 h2
  obtain ⟨hr2, hll, hlz⟩ := put_lk vr hl h1 h2 y'
  have hz5 : (v.put loc y').kind = 5 := by rw [put_kind]; exact hk
  have ht : touP p c = p s.key := by unfold touP; rw [hp]; simp only [hl]; simp
  refine ⟨hz5, ?_⟩
  rw [ht]
  by_cases hpk : p s.key = true
  ·rw [if_pos hpk]
   have hlk' : lk s.key (partP p v).o = some y := by rw [show (partP p v).o = v.o.filter fun f => p f.key from rfl, lk_part, if_pos hpk]; exact hlk
   obtain ⟨loc', g1, g2⟩ := lk_step (v := partP p v) (rise_filter _ vr) rfl hl hlk'
   obtain ⟨gr, gl, glz⟩ := put_lk (v := partP p v) (rise_filter _ vr) hl g1 g2 y'
   have he : partP p (v.put loc y') = (partP p v).put loc' y' := by
    refine part_eq hr2 gr ⟨by rw [put_kind]; rfl, by rw [put_n]; rfl, by rw [put_s]; rfl, by rw [gl]; rfl⟩ fun K => ?_
    rw [hlz, glz, show (partP p v).o = v.o.filter fun f => p f.key from rfl, lk_part]
    by_cases e : s.key = K
    ·subst e; rw [if_pos rfl, if_pos rfl, if_pos hpk]
    ·rw [if_neg e, if_neg e]
   show LDo (partP p v) c.path c _
   rw [hp, he]
   obtain ⟨u, k1, k2, k3⟩ := h3
   exact ⟨u, by rw [getV_cons g1 g2]; exact k1, k2, by rw [putV_cons g1 g2, k3]; rfl⟩
  ·rw [if_neg hpk]
   refine part_eq hr2 (rise_filter _ vr) (partP_form p v) fun K => ?_
   rw [hlz, show (partP p v).o = v.o.filter fun f => p f.key from rfl, lk_part]
   by_cases e : s.key = K
   ·subst e; rw [if_neg hpk, if_neg hpk]
   ·rw [if_neg e]
def DoesC (w0 : World) : V → List Cp → V → Prop
 | v, [], z => z = v
 | v, c :: r, z => ∃ y, Does w0 v c y ∧ DoesC w0 y r z
theorem part_size (p : ByteArray → Bool) (v : V) : (partP p v).size ≤ v.size := by
 have h1 := V.size_eq v
 have h2 := V.size_eq (partP p v)
 have h3 : V.sizes (partP p v).l = 0 := by show V.sizes [] = 0; rw [V.sizes]
 have h4 : F.sizes (partP p v).o ≤ F.sizes v.o := by
  show F.sizes (v.o.filter fun f => p f.key) ≤ _
  generalize v.o = o
  induction o with
  | nil => simp [F.sizes]
  | cons f o ih =>
   rw [List.filter_cons]
   split
   ·rw [F.sizes, F.sizes]; omega
   ·rw [F.sizes]; omega
 omega
theorem pdo_size {v z : V} {c : Cp} (h : PDo v c z) (hc : c.v.size ≤ 300) : z.size ≤ v.size + 301 := by
 obtain ⟨x, hg, hcn, hp⟩ := h
 have h3 := putV_sizem _ _ _ _ _ hg hp
 have h4 := doX_size hcn
 omega
theorem ActsTo.sv : ∀ {cs : List Cp} {v z : V}, ActsTo v cs z → SV z → SV v
 | [], v, z, h, hz => by have h : z = v := h; subst h; exact hz
 | c :: cs, v, z, h, hz => h.1
theorem acts_do {w0 : World} (hva : ValAny w0) (hD : DecAny w0) (p : ByteArray → Bool) : ∀ (cs : List Cp) (v z : V) (m : Nat), ActsTo v cs z → SV z → v.size + 301 * cs.length ≤ m → m ≤ 100000 →
  DoesC w0 v cs z ∧ (∀ c ∈ cs, Snd6 c) ∧ (v.kind = 5 → z.kind = 5 ∧ DoesC w0 (partP p v) (cs.filter (touP p)) (partP p z) ∧ ((∀ c ∈ cs, touP p c = true) → partP (fun k => !p k) z = partP (fun k => !p k) v))
 | [], v, z, m, h, hz, _, _ => by
  have h : z = v := h
  subst h
  exact ⟨rfl, (fun c hc => (by cases hc)), fun hk => ⟨hk, rfl, fun _ => rfl⟩⟩
 | c :: cs, v, z, m, ⟨hs, ho, y, hp, hr⟩, hz, hm, hmx => by
  rw [List.length_cons] at hm
  obtain ⟨sc, vc, _, _, _⟩ := one_ok hs (by omega) ho
  have hys := hr.sv hz
  have hsz := pdo_size hp vc
  obtain ⟨d, _⟩ := pdo_does hva hD sc (by omega) vc hp
  obtain ⟨i1, i2, i3⟩ := acts_do hva hD p cs y z m hr hz (by omega) hmx
  refine ⟨⟨y, d, i1⟩, fun e he => ?_, fun hk => ?_⟩
  ·rcases List.mem_cons.1 he with rfl | he
   ·exact sc
   ·exact i2 e he
  ·obtain ⟨hyk, h1⟩ := part_step p hs hk hys hp
   obtain ⟨hzk, h2, h3⟩ := i3 hyk
   refine ⟨hzk, ?_, fun ha => ?_⟩
   ·rw [List.filter_cons]
    by_cases ht : touP p c = true
    ·rw [if_pos ht] at h1 ⊢
     obtain ⟨d2, _⟩ := pdo_does hva hD sc (by have := part_size p v; omega) vc h1
     exact ⟨_, d2, h2⟩
    ·rw [if_neg ht] at h1 ⊢
     rw [← h1]; exact h2
   ·have ht := ha c List.mem_cons_self
    rw [h3 fun e he => ha e (List.mem_cons_of_mem _ he)]
    have h4 := (part_step (fun k => !p k) hs hk hys hp).2
    have hn : touP (fun k => !p k) c = false := by
     cases hpt : c.path with
     | nil =>
      unfold touP at ht ⊢
      rw [hpt] at ht ⊢
      simp only at ht ⊢
      by_cases hkk : c.kind = 2 ∨ c.kind = 3
      ·rw [if_pos hkk] at ht ⊢; rw [ht]; rfl
      ·rw [if_neg hkk] at ht; cases ht
     | cons s q =>
      unfold touP at ht ⊢
      rw [hpt] at ht ⊢
      simp only at ht ⊢
      simp at ht
      rw [ht.2]; simp
    rw [hn] at h4
    exact h4
theorem filter_weights (q : F → Bool) : ∀ o : List F, F.weights (o.filter q) ≤ F.weights o
 | [] => by simp [F.weights]
 | f :: o => by
  have := filter_weights q o
  rw [List.filter_cons]
  split <;> simp only [F.weights] <;> omega
theorem filter_deeps (q : F → Bool) : ∀ o : List F, F.deeps (o.filter q) ≤ F.deeps o
 | [] => by simp [F.deeps]
 | f :: o => by
  have := filter_deeps q o
  rw [List.filter_cons]
  split <;> simp only [F.deeps] <;> omega
theorem filter_encs (q : F → Bool) : ∀ o : List F, (encFs (o.filter q)).length ≤ (encFs o).length
 | [] => by simp
 | f :: o => by
  have := filter_encs q o
  rw [List.filter_cons]
  split <;> simp only [encFs, List.length_append] <;> omega
theorem part_weight (p : ByteArray → Bool) (v : V) : (partP p v).weight ≤ v.weight := by
 rw [V.weight_eq v, partP, V.weight]
 have := filter_weights (fun f => p f.key) v.o
 have h : V.weights [] = 0 := by rw [V.weights]
 simp only [h]
 have : (⟨#[]⟩ : ByteArray).size = 0 := rfl
 omega
theorem part_deep (p : ByteArray → Bool) (v : V) : (partP p v).deep ≤ v.deep := by
 rw [V.deep_eq v, partP, V.deep]
 have := filter_deeps (fun f => p f.key) v.o
 have h : V.deeps [] = 0 := by rw [V.deeps]
 rw [h]
 omega
theorem part_enc (p : ByteArray → Bool) {v : V} (hk : v.kind = 5) : (encV (partP p v)).length ≤ (encV v).length := by
 rw [encV_eq, encV_eq]
 have h5 : (partP p v).kind = 5 := rfl
 rw [hk, h5]
 have := filter_encs (fun f => p f.key) v.o
 simp only [show ¬ ((5 : UInt8) = 1 ∨ (5 : UInt8) = 2) from by decide, show ¬ ((5 : UInt8) = 3) from by decide, show ¬ ((5 : UInt8) = 4) from by decide, if_true, if_false, List.length_cons, List.length_append, beN_len]
 show _ + (encFs (v.o.filter fun f => p f.key)).length + 1 ≤ _
 omega
theorem part_sv (p : ByteArray → Bool) {v : V} (h : SV v) (hk : v.kind = 5) : SV (partP p v) := by
 have hs := (SV_iff v).1 h
 rw [SV_iff]
 refine ⟨?_, by show SVs []; rw [SVs]; trivial, ?_, rise_filter _ hs.2.2.2⟩
 ·exact .inr (.inr (.inr (.inr (.inr ⟨rfl, rfl, rfl, rfl⟩))))
 ·rw [SFs_iff]
  intro f hf
  exact (SFs_iff v.o).1 hs.2.2.1 f (List.mem_filter.1 hf).1
mutual
theorem weight_size {R : Nat} : ∀ v : V, VStr R v → v.weight + R ≤ v.size * (1 + 2 * R)
 | .mk k n s l o, h => by
  rw [VStr] at h
  have h1 := weights_size l h.2.1
  have h2 := fweights_size o h.2.2
  rw [V.weight, V.size]
  have h0 := h.1
  rw [Nat.add_mul, Nat.add_mul]
  omega
theorem weights_size {R : Nat} : ∀ l : List V, VStrs R l → V.weights l ≤ V.sizes l * (1 + 2 * R)
 | [], _ => by simp [V.weights]
 | v :: l, h => by
  rw [VStrs] at h
  have h1 := weight_size v h.1
  have h2 := weights_size l h.2
  rw [V.weights, V.sizes, Nat.add_mul]; omega
theorem fweights_size {R : Nat} : ∀ l : List F, FStrs R l → F.weights l ≤ F.sizes l * (1 + 2 * R)
 | [], _ => by simp [F.weights]
 | .mk k v :: l, h => by
  rw [FStrs, FStr] at h
  have h1 := weight_size v h.1.2
  have h2 := fweights_size l h.2
  have h0 := h.1.1
  rw [F.weights, F.sizes, F.weight, F.size, Nat.add_mul]; omega
end
theorem SV.wide {v : V} (h : SV v) (hz : v.size ≤ 100000) : Wide v := by
 refine ⟨by omega, h.big, ?_⟩
 have := weight_size v (SV.str v h)
 have h2 : v.size * (1 + 2 * 900) ≤ 100000 * (1 + 2 * 900) := Nat.mul_le_mul_right _ hz
 omega
def foldBad (z : V) : Bool := decide (16 < z.deep) || (decide (20000 < z.weight) || bigB z)
theorem big_light {v : V} (h : lightB v = true) : bigB v = decide (59000 < (encV v).length) := by
 unfold bigB valB valC
 rw [if_pos h]
 by_cases hl : (encV v).length > 60000
 ·rw [if_pos hl]; simp; omega
 ·rw [if_neg hl]; simp
theorem part_good (p : ByteArray → Bool) {z : V} (hz : SV z) (hk : z.kind = 5) (h : foldBad z = false) : foldBad (partP p z) = false := by
 unfold foldBad at h ⊢
 simp only [Bool.or_eq_false_iff, decide_eq_false_iff_not, Nat.not_lt] at h ⊢
 obtain ⟨h1, h2, h3⟩ := h
 have d1 := part_deep p z
 have d2 := part_weight p z
 refine ⟨by omega, by omega, ?_⟩
 have l1 : lightB z = true := by unfold lightB; rw [SV.snd z hz]; simp; omega
 have l2 : lightB (partP p z) = true := by unfold lightB; rw [SV.snd _ (part_sv p hz hk)]; simp; omega
 rw [big_light l1] at h3
 rw [big_light l2]
 have := part_enc p hk
 simp at h3 ⊢
 omega
end Go.Proofs.YtggkidnlmaindaaDoor
