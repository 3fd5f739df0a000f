/- proj.Val, by contract. -/
import Derived.Test.YtggkidnlmaindaaDoorProjG
import Derived.Test.YtggkidnlmaindaaDoorValCopyT
set_option linter.unusedSimpArgs false
set_option linter.unusedVariables false
namespace Go.Proofs.YtggkidnlmaindaaDoor
open Go.RowKit
set_option linter.unusedVariables false

/-- A value's part. -/
def projV (v : V) (fs : List ByteArray) : V := if v.kind = 5 then .mk 5 0 ⟨#[]⟩ [] (v.o.filter fun f => !goes fs f) else .mk 0 0 ⟨#[]⟩ [] []
def ProjIs (w : World) (y : V) (e : Ending) (w' : World) : Prop := ∃ u', e = .returned u' ∧ VAt w' (fun _ => True) u' y ∧ Ext w w'

theorem TV.own {w : World} {a b : Nat} {x0 x1 x2 lv ov : Value} {v : V} (h : TV w v a b [x0, x1, x2, lv, ov]) : ∃ a1, a ≤ a1 ∧ Own EField w a TFIELD (fun q => a1 ≤ q ∧ q < b) ov v.o ∧ ∀ q, ov.ownBlock = some q → a ≤ q ∧ q < a1 ∧ q < b := by
  cases v with
  | mk k n s l o =>
    rw [TV] at h
    obtain ⟨lv', ov', ls, os, a1, a2, e, h1, _, hr, h3, h4⟩ := h
    simp at e
    obtain ⟨_, _, _, _, rfl⟩ := e
    have hl3 := (TVs_le l a1 a2 ls h3).1
    have hl4 := (TFs_le o a2 b os h4).1
    have hc := (rdFs_cells o os).1 (TFs_rd o a2 b os (S := fun q => a1 ≤ q ∧ q < b) (fun q h h' => ⟨by omega, h'⟩) h4)
    refine ⟨a1, h1, ?_, ?_⟩
    · obtain ⟨h0, ⟨rfl, h⟩ | ⟨g, cap, cur, rfl, q1, q2, q3, q4, q5, q6, q7⟩⟩ := hr
      · exact .inl ⟨rfl, List.eq_nil_of_length_eq_zero h⟩
      · exact .inr ⟨g, cap, cur, rfl, q1, q3, q4, q5, q6, by rw [show (V.mk k n s l o).o.length * EField.size = o.length * 6 from rfl, q7]; exact hc⟩
    · intro q hq
      obtain ⟨h0, ⟨rfl, h⟩ | ⟨g, cap, cur, rfl, q1, q2, q3, q4, q5, q6, q7⟩⟩ := hr
      · simp [Value.ownBlock] at hq
      · simp [Value.ownBlock] at hq; subst hq; exact ⟨q1, q2, by omega⟩

theorem set5_full {w : World} {g : Nat} {T : TypeId} {c0 c1 c2 c3 c4 : Value} (h : Blk w g T #[c0, c1, c2, c3, c4]) (a b c d e : Value) : Blk (set5 w g 0 a b c d e) g T #[a, b, c, d, e] := by
  obtain ⟨cur', h1, h2⟩ := set5_blk h 0 a b c d e (by simp)
  have : cur' = #[a, b, c, d, e] := by
    apply Array.toList_inj.1
    simpa using h2
  rw [← this]; exact h1
theorem VAt.fields {w : World} {S : BS} {base : Nat} {ov : Value} {o : List F} (h : Own EField w base TFIELD S ov o) : VAt w (fun _ => True) (.agg #[.int .u8 5, .int .i64 0, .string ⟨#[]⟩, .slice none 0 0, ov]) (.mk 5 0 ⟨#[]⟩ [] o) :=
  ⟨_, _, rfl, Sl.nil _ _, (h.sl EField.ok).more EField.ok fun _ _ _ => trivial⟩

set_option maxRecDepth 100000 in
set_option maxHeartbeats 3200000 in
theorem pval_ok (w : World) (S S2 : BS) (u fv : Value) (v : V) (fs : List ByteArray) (hv : VAt w S u v) (hsz : v.size ≤ 1000000) (hs : Sl EStr w S2 fv fs) :
    Calls Tryd.prog 17 #[u, fv] w (ProjIs w (projV v fs)) := by
  have HV := hid hv
  have HSZ := hid hsz
  have HS := hid (hs.more EStr.ok (S' := fun q => q < w.heap.size) fun k hk _ => hk)
  obtain ⟨lv, ov, rfl, hl, ho⟩ := hv
  obtain ⟨A, c, rfl, hlc, hcm⟩ := hl.shape
  obtain ⟨A', c', rfl, hlc', hcm'⟩ := ho.shape
  obtain ⟨B, d, rfl, _, _⟩ := hs.shape
  clear hl ho hs hsz
  obtain ⟨W0, hW0⟩ : ∃ W0, ((w.alloc (.cells #[U8 v.kind, .int .i64 v.n, .string v.s, .slice A v.l.length c, .slice A' v.o.length c'] TVAL)).alloc (.cells #[.slice B fs.length d] 23)).alloc (.cells #[.int .u8 0, .int .i64 0, .string ⟨#[]⟩, .slice none 0 0, .slice none 0 0] TVAL) = W0 := ⟨_, rfl⟩
  have hE0 : Ext w W0 := by rw [← hW0]; exact (((Keep.refl _ _).alloc _).alloc _).alloc _
  have hb0 : Blk W0 w.heap.size TVAL #[U8 v.kind, .int .i64 v.n, .string v.s, .slice A v.l.length c, .slice A' v.o.length c'] := by rw [← hW0]; exact ((Blk.new _ _ _).alloc _).alloc _
  have hb1 : Blk W0 (w.heap.size + 1) 23 #[.slice B fs.length d] := by
    have := Blk.new (w.alloc (.cells #[U8 v.kind, .int .i64 v.n, .string v.s, .slice A v.l.length c, .slice A' v.o.length c'] TVAL)) 23 #[.slice B fs.length d]
    rw [World.size_alloc] at this
    rw [← hW0]; exact this.alloc _
  have hb2 : Blk W0 (w.heap.size + 1 + 1) TVAL #[.int .u8 0, .int .i64 0, .string ⟨#[]⟩, .slice none 0 0, .slice none 0 0] := by
    have := Blk.new ((w.alloc (.cells #[U8 v.kind, .int .i64 v.n, .string v.s, .slice A v.l.length c, .slice A' v.o.length c'] TVAL)).alloc (.cells #[.slice B fs.length d] 23)) TVAL #[.int .u8 0, .int .i64 0, .string ⟨#[]⟩, .slice none 0 0, .slice none 0 0]
    rw [World.size_alloc, World.size_alloc] at this
    rw [← hW0]; exact this
  have hz0 : W0.heap.size = w.heap.size + 3 := by rw [← hW0]; simp
  have HE0 := hid hE0
  have HB1 := hid hb1
  have HB2 := hid hb2
  have HZ0 := hid hz0
  have p0 := hb0.cell 0
  have p1 := hb0.cell 1
  have p2 := hb0.cell 2
  have p3 := hb0.cell 3
  have p4 := hb0.cell 4
  have z0 := hb2.cell 0
  have z1 := hb2.cell 1
  have z2 := hb2.cell 2
  have z3 := hb2.cell 3
  have z4 := hb2.cell 4
  simp only [List.getElem?_toArray, List.getElem?_cons_succ, List.getElem?_cons_zero] at p0 p1 p2 p3 p4 z0 z1 z2 z3 z4
  have hfz := hb2.frozen
  clear hE0 hb0 hb1 hb2 hz0
  by_cases hk : v.kind = 5
  · have hkX : ((v.kind.toNat : Int) != 5) = false := by rw [hk]; rfl
    have HK := hid hk
    clear hk hfz z0 z1 z2 z3 z4
    go_enter Tryd.func17, Tryd.ntmps17
    go_wp2_with fail
    clear hW0
    refine (copy_valT 1000000 v HSZ.out (Nat.le_refl _) _ S _ (HV.out.ext HE0.out)).mono ?_
    rintro e w1 ⟨lv1, ov1, rfl, htv, hE1⟩
    obtain ⟨⟨A1, d1, rfl⟩, ⟨A2, d2, rfl⟩⟩ := htv.shapes
    have HTV := hid htv
    have HE1 := hid hE1
    clear htv hE1 p0 p1 p2 p3 p4
    obtain ⟨W3, hW3⟩ : ∃ W3, w1.alloc (.cells #[.int .u8 v.kind.toNat, .int .i64 0, .string ⟨#[]⟩, .slice none 0 0, .slice A2 v.o.length d2] TVAL) = W3 := ⟨_, rfl⟩
    have hE3 : Ext w1 W3 := by rw [← hW3]; exact (Keep.refl _ _).alloc _
    have HT := hid (show Blk W3 w1.heap.size TVAL #[.int .u8 v.kind.toNat, .int .i64 0, .string ⟨#[]⟩, .slice none 0 0, .slice A2 v.o.length d2] from by rw [← hW3]; exact Blk.new _ _ _)
    have HE3 := hid hE3
    have s0 := HT.out.cell 0
    have s1 := HT.out.cell 1
    have s2 := HT.out.cell 2
    have s3 := HT.out.cell 3
    have s4 := HT.out.cell 4
    simp only [List.getElem?_toArray, List.getElem?_cons_succ, List.getElem?_cons_zero] at s0 s1 s2 s3 s4
    clear hE3
    go_wp2_with fail
    clear s0 s1 s2 s3 s4
    obtain ⟨a1, ha1, hown, hq⟩ := HTV.out.own
    have hsz1 := HE1.out.size
    have hsz0 := HZ0.out
    have hB1 := ((HB1.out.keep HE1.out id).keep HE3.out id)
    have hB2 := ((HB2.out.keep HE1.out id).keep HE3.out id)
    have h1 : W3.cell? ⟨w.heap.size + 1, 0, none⟩ = some (.slice B fs.length d) := hB1.cell 0
    refine (delfunc_ok W3 W0.heap.size (fun q => a1 ≤ q ∧ q < w1.heap.size) (fun q => q < w.heap.size) _ v.o (w.heap.size + 1) fs _ (hown.ext EField.ok HE3.out) (fun q h => ⟨by have := hq q h; omega, by have := hq q h; omega, by have := hq q h; omega⟩) h1 (((HS.out.ext EStr.ok HE0.out).ext EStr.ok HE1.out).ext EStr.ok HE3.out)).mono ?_
    rintro e w4 ⟨v', rfl, hown', hqq, hK⟩
    obtain ⟨A3, c3, rfl, _⟩ := hown'.shape
    have HOW := hid hown'
    have HK4 := hid hK
    have hT := HT.out.keep hK (fun h => by have := hq _ h; omega)
    have hR := hB2.keep hK (fun h => by have := hq _ h; omega)
    have HT4 := hid hT
    have HR4 := hid hR
    have HKW := hid (show Keep (fun k => w.heap.size ≤ k) w w4 from ((((Keep.refl (fun k => w.heap.size ≤ k) w).ext HE0.out).ext HE1.out).ext HE3.out).trans hK fun k _ h => by have := hq _ h; omega)
    have HQ := hid (fun q h => hq q (hqq q h))
    have HA1 := hid ha1
    have HS1 := hid hsz1
    have t0 := hT.cell 0
    have t1 := hT.cell 1
    have t2 := hT.cell 2
    have t3 := hT.cell 3
    have t4 := hT.cell 4
    have z0 := hR.cell 0
    have z1 := hR.cell 1
    have z2 := hR.cell 2
    have z3 := hR.cell 3
    have z4 := hR.cell 4
    simp only [List.getElem?_toArray, List.getElem?_cons_succ, List.getElem?_cons_zero] at t0 t1 t2 t3 t4 z0 z1 z2 z3 z4
    have hft := hT.frozen
    have hfz := hR.frozen
    have hne : ¬ w1.heap.size = w.heap.size + 1 + 1 := by omega
    have hne2 : ¬ w.heap.size + 1 + 1 = w1.heap.size := by omega
    clear ha1 hqq hown hq hsz1 hsz0 hB1 hB2 h1 hown' hK hT hR hW3
    go_wp2_with fail
    have HY := hid (show (v.kind.toNat : Int) = 5 by rw [HK.out]; rfl)
    generalize hX : (Value.slice A3 (v.o.filter fun f => !goes fs f).length c3) = X at *
    obtain ⟨Wf, hWf⟩ : ∃ Wf, set5 (w4.setCell ⟨w1.heap.size, 4, none⟩ X) (w.heap.size + 1 + 1) 0 (.int .u8 v.kind.toNat) (.int .i64 0) (.string ⟨#[]⟩) (.slice none 0 0) X = Wf := ⟨_, rfl⟩
    change bodyPost _ _ _ _ _ (set5 (w4.setCell ⟨w1.heap.size, 4, none⟩ X) (w.heap.size + 1 + 1) 0 (.int .u8 v.kind.toNat) (.int .i64 0) (.string ⟨#[]⟩) (.slice none 0 0) X)
    have hka : Keep (· = w1.heap.size) w4 (w4.setCell ⟨w1.heap.size, 4, none⟩ X) := (Keep.refl _ _).set1 4 X
    have hf := set5_full (HR4.out.keep hka hne2) (.int .u8 v.kind.toNat) (.int .i64 0) (.string ⟨#[]⟩) (.slice none 0 0) X
    have hk := set5_keep (w4.setCell ⟨w1.heap.size, 4, none⟩ X) (w.heap.size + 1 + 1) 0 (.int .u8 v.kind.toNat) (.int .i64 0) (.string ⟨#[]⟩) (.slice none 0 0) X
    rw [hWf] at hf hk ⊢
    rw [HY.out] at hf
    have f0 := hf.cell 0
    have f1 := hf.cell 1
    have f2 := hf.cell 2
    have f3 := hf.cell 3
    have f4 := hf.cell 4
    simp only [List.getElem?_toArray, List.getElem?_cons_succ, List.getElem?_cons_zero] at f0 f1 f2 f3 f4
    have hs0 := HZ0.out
    have ha1 := HA1.out
    have hs1 := HS1.out
    have hKW : Ext w Wf := ((HKW.out.trans hka fun k _ h => by omega).trans hk fun k _ h => by omega).mono fun k h1 h2 => by omega
    refine bodyPost_ret (v := .agg #[.int .u8 5, .int .i64 0, .string ⟨#[]⟩, .slice none 0 0, X]) (by simp [results, Tryd.results17, go_sem, f0, f1, f2, f3, f4]) rfl ⟨_, rfl, ?_, hKW⟩
    rw [projV, if_pos HK.out]
    have hoa := HOW.out.keep EField.ok (hka) (fun q h e => by omega) (fun q h e => by have := HQ.out q h; omega)
    exact VAt.fields (hoa.keep EField.ok hk (fun q h e => by omega) (fun q h e => by have := (HOW.out.lt h).1; omega))
  · have hkX : ((v.kind.toNat : Int) != 5) = true := by
      have : v.kind.toNat ≠ 5 := fun e => hk (UInt8.toNat_inj.1 (by simpa using e))
      simp; omega
    have HK := hid hk
    clear hk
    go_enter Tryd.func17, Tryd.ntmps17
    go_wp2_with fail
    obtain ⟨Wf, hWf⟩ : ∃ Wf, set5 W0 (w.heap.size + 1 + 1) 0 (.int .u8 0) (.int .i64 0) (.string ⟨#[]⟩) (.slice none 0 0) (.slice none 0 0) = Wf := ⟨_, rfl⟩
    change bodyPost _ _ _ _ _ (set5 W0 (w.heap.size + 1 + 1) 0 (.int .u8 0) (.int .i64 0) (.string ⟨#[]⟩) (.slice none 0 0) (.slice none 0 0))
    have hf := set5_full HB2.out (.int .u8 0) (.int .i64 0) (.string ⟨#[]⟩) (.slice none 0 0) (.slice none 0 0)
    have hk := set5_keep W0 (w.heap.size + 1 + 1) 0 (.int .u8 0) (.int .i64 0) (.string ⟨#[]⟩) (.slice none 0 0) (.slice none 0 0)
    rw [hWf] at hf hk ⊢
    have f0 := hf.cell 0
    have f1 := hf.cell 1
    have f2 := hf.cell 2
    have f3 := hf.cell 3
    have f4 := hf.cell 4
    simp only [List.getElem?_toArray, List.getElem?_cons_succ, List.getElem?_cons_zero] at f0 f1 f2 f3 f4
    have hKW : Ext w Wf := (((Keep.refl (fun k => w.heap.size ≤ k) w).ext HE0.out).trans hk fun k _ h => by omega).mono fun k h1 h2 => by omega
    refine bodyPost_ret (v := .agg #[.int .u8 0, .int .i64 0, .string ⟨#[]⟩, .slice none 0 0, .slice none 0 0]) (by simp [results, Tryd.results17, go_sem, f0, f1, f2, f3, f4]) rfl ⟨_, rfl, ?_, hKW⟩
    rw [projV, if_neg HK.out]
    exact ⟨_, _, rfl, Sl.nil _ _, Sl.nil _ _⟩
end Go.Proofs.YtggkidnlmaindaaDoor
