/- TurnI, TurnJ, RefPut, TurnS: laid together. -/
import Derived.Test.YtioplgfopillnaaDoorTtB12
import Derived.Test.YtioplgfopillnaaDoorTtB10
import Derived.Test.YtioplgfopillnaaDoorTtB11
/- turn.family, turn.fields, turn.through. -/
set_option linter.unusedSimpArgs false
set_option linter.unusedVariables false
namespace Go.Proofs.YtioplgfopillnaaDoor
open Go.RowKit
set_option linter.unusedVariables false

/-- What a component works on. -/
def famN (k : Nat) : Nat := if k = 1 then 2 else if k = 2 ∨ k = 3 then 5 else if k = 4 ∨ k = 5 ∨ k = 6 ∨ k = 7 then 4 else if k = 8 ∨ k = 9 then 3 else 0
set_option maxHeartbeats 3200000 in
theorem family_ok (w : World) (k : UInt8) (p key i j n v0 v1 v2 v3 v4 s : Value) :
    Calls Tryd.prog 55 #[.agg #[U8 k, p, key, i, j, n, v0, v1, v2, v3, v4, s]] w fun e w' => e = .returned (.int .u8 (famN k.toNat : Int)) ∧ Ext w w' := by
  have hE : Ext w (w.alloc (.cells #[U8 k, p, key, i, j, n, v0, v1, v2, v3, v4, s] TCMP)) := (Keep.refl _ _).alloc _
  have HE := hid hE
  clear hE
  obtain ⟨q, hq⟩ : ∃ q, k.toNat = q := ⟨_, rfl⟩
  have hc : q = 1 ∨ q = 2 ∨ q = 3 ∨ q = 4 ∨ q = 5 ∨ q = 6 ∨ q = 7 ∨ q = 8 ∨ q = 9 ∨ (q ≠ 1 ∧ q ≠ 2 ∧ q ≠ 3 ∧ q ≠ 4 ∧ q ≠ 5 ∧ q ≠ 6 ∧ q ≠ 7 ∧ q ≠ 8 ∧ q ≠ 9) := by omega
  rw [show U8 k = .int .u8 (q : Int) from by rw [← hq]] at *
  have hfam : famN k.toNat = famN q := by rw [hq]
  rw [hfam]
  clear hq hfam
  rcases hc with rfl | rfl | rfl | rfl | rfl | rfl | rfl | rfl | rfl | ⟨h1, h2, h3, h4, h5, h6, h7, h8, h9⟩
  case' inr.inr.inr.inr.inr.inr.inr.inr.inr =>
    have g1 : ((q : Int) == 1) = false := by simp; omega
    have g2 : ((q : Int) == 2) = false := by simp; omega
    have g3 : ((q : Int) == 3) = false := by simp; omega
    have g4 : ((q : Int) == 4) = false := by simp; omega
    have g5 : ((q : Int) == 5) = false := by simp; omega
    have g6 : ((q : Int) == 6) = false := by simp; omega
    have g7 : ((q : Int) == 7) = false := by simp; omega
    have g8 : ((q : Int) == 8) = false := by simp; omega
    have g9 : ((q : Int) == 9) = false := by simp; omega
    have HF := hid (show famN q = 0 from by unfold famN; rw [if_neg h1, if_neg (by omega), if_neg (by omega), if_neg (by omega)])
    clear h1 h2 h3 h4 h5 h6 h7 h8 h9
  all_goals
    go_enter Tryd.func55, Tryd.ntmps55
    go_wp2
    go_ret
    first | exact ⟨rfl, HE.out⟩ | (rw [HF.out]; exact ⟨rfl, HE.out⟩)

/-- A pointer to a step in a row that may be written. -/
def StepAt (w : World) (g o : Nat) (s : St) : Prop := w.cell? ⟨g, o, none⟩ = some (.bool s.list) ∧ w.cell? ⟨g, o + 1, none⟩ = some (.int .i64 s.i) ∧ w.cell? ⟨g, o + 2, none⟩ = some (.string s.key) ∧ w.frozen? ⟨g, o + 1, none⟩ = false
/-- What is left of a step, and whether anything is. -/
def thrL (s : St) (y : Cp) : Int × Bool :=
  if famN y.kind.toNat = 5 ∧ s.list = false then (s.i, s.key.toList != y.key.toList) else if famN y.kind.toNat = 4 ∧ s.list = true then atL y.kind y.i y.j s.i else (s.i, true)
def ThrIs (w : World) (g o : Nat) (s : St) (y : Cp) (e : Ending) (w' : World) : Prop :=
  e = .returned (.bool (thrL s y).2) ∧ ∃ w1, Ext w w1 ∧ (w' = w1.setCell ⟨g, o + 1, none⟩ (.int .i64 (thrL s y).1) ∨ (w' = w1 ∧ (thrL s y).1 = s.i))
set_option maxRecDepth 20000 in
set_option maxHeartbeats 3200000 in
theorem through_ok (w : World) (g o : Nat) (s : St) (y : Cp) (p v0 v1 v2 v3 v4 : Value) (hs : StepAt w g o s) (hsi : Sm s.i) (hyi : Sm y.i) (hyj : Sm y.j) :
    Calls Tryd.prog 27 #[.pointer (some ⟨g, o, none⟩), .agg #[U8 y.kind, p, .string y.key, .int .i64 y.i, .int .i64 y.j, .int .i64 y.n, v0, v1, v2, v3, v4, .string y.s]] w (ThrIs w g o s y) := by
  obtain ⟨h0, h1, h2, h3⟩ := hs
  obtain ⟨W, hW⟩ : ∃ W, w.alloc (.cells #[U8 y.kind, p, .string y.key, .int .i64 y.i, .int .i64 y.j, .int .i64 y.n, v0, v1, v2, v3, v4, .string y.s] TCMP) = W := ⟨_, rfl⟩
  have hE : Ext w W := by rw [← hW]; exact (Keep.refl _ _).alloc _
  have hb : Blk W w.heap.size TCMP #[U8 y.kind, p, .string y.key, .int .i64 y.i, .int .i64 y.j, .int .i64 y.n, v0, v1, v2, v3, v4, .string y.s] := by rw [← hW]; exact Blk.new _ _ _
  have hlt := lt_of_cell h1
  have HH0 := hid ((hE.cell (lt_of_cell h0) id).trans h0)
  have HH1 := hid ((hE.cell (lt_of_cell h1) id).trans h1)
  have HH2 := hid ((hE.cell (lt_of_cell h2) id).trans h2)
  have HH3 := hid (show W.frozen? ⟨g, o + 1, none⟩ = false from by rw [hE.frozen hlt id]; exact h3)
  have HB := hid hb
  have HE := hid hE
  have HSI := hid hsi
  have HYI := hid hyi
  have HYJ := hid hyj
  have a0 := hb.cell 0
  have a1 := hb.cell 1
  have a2 := hb.cell 2
  have a3 := hb.cell 3
  have a4 := hb.cell 4
  have a5 := hb.cell 5
  have a6 := hb.cell 6
  have a7 := hb.cell 7
  have a8 := hb.cell 8
  have a9 := hb.cell 9
  have a10 := hb.cell 10
  have a11 := hb.cell 11
  simp at a2 a3 a4 a5 a11
  clear h0 h1 h2 h3 hb hE hlt hsi hyi hyj
  go_enter Tryd.func27, Tryd.ntmps27
  go_wp2_with fail
  refine (family_ok W y.kind _ _ _ _ _ _ _ _ _ _ _).mono ?_
  rintro e w1 ⟨rfl, hE1⟩
  obtain ⟨f, hf⟩ : ∃ f, famN y.kind.toNat = f := ⟨_, rfl⟩
  have HF := hid hf
  rw [hf]
  have h0 := (hE1.cell (lt_of_cell HH0.out) id).trans HH0.out
  have h1 := (hE1.cell (lt_of_cell HH1.out) id).trans HH1.out
  have h2 := (hE1.cell (lt_of_cell HH2.out) id).trans HH2.out
  have h3 : w1.frozen? ⟨g, o + 1, none⟩ = false := by rw [hE1.frozen (lt_of_cell HH1.out) id]; exact HH3.out
  have HB1 := hid (HB.out.keep hE1 id)
  have HE1 := hid (HE.out.ext hE1)
  clear hf hE1 HB HE HH0 HH1 HH2 HH3 hW a0 a1 a2 a3 a4 a5 a6 a7 a8 a9 a10 a11
  have a0 := HB1.out.cell 0
  have a1 := HB1.out.cell 1
  have a2 := HB1.out.cell 2
  have a3 := HB1.out.cell 3
  have a4 := HB1.out.cell 4
  have a5 := HB1.out.cell 5
  have a6 := HB1.out.cell 6
  have a7 := HB1.out.cell 7
  have a8 := HB1.out.cell 8
  have a9 := HB1.out.cell 9
  have a10 := HB1.out.cell 10
  have a11 := HB1.out.cell 11
  simp at a2 a3 a4 a5 a11
  by_cases h5 : f = 5
  · subst h5
    cases hl : s.list with
    | false =>
      rw [hl] at h0
      go_wp2_with fail
      refine wp_region_grow (specOf []) (fun w' => Ext w1 w') stable_nil (stableC_ext _) (by kernel_rfl) (by kernel_rfl) (Keep.drew (Keep.refl _ _)) ?_
      iterate 8
        (try simp only [Act.put, List.setIfInBounds_toArray, List.set_cons_zero, List.set_cons_succ])
        refine grow_run rfl rfl rfl ?_
        apply Exists.intro
        refine ⟨fun w' hC hK => ?_, ?_⟩
        · have h2 := (hC.cell (lt_of_cell h2) id).trans h2
          have a2 := (hC.cell (lt_of_cell a2) id).trans a2
          go_simp
          rfl
      refine grow_nil fun w2 hC _ => ?_
      have HC := hid (show Ext w1 w2 from hC)
      clear hC
      go_wp2
      go_ret
      have ht : thrL s y = (s.i, s.key.toList != y.key.toList) := by unfold thrL; rw [if_pos ⟨HF.out, hl⟩]
      exact ⟨by rw [ht]; rfl, w2, HE1.out.ext HC.out, .inr ⟨rfl, by rw [ht]⟩⟩
    | true =>
      rw [hl] at h0
      go_wp2
      go_ret
      have ht : thrL s y = (s.i, true) := by unfold thrL; rw [if_neg (by rw [hl]; simp), if_neg (by rw [HF.out]; simp)]
      exact ⟨by rw [ht]; rfl, w1, HE1.out, .inr ⟨rfl, by rw [ht]⟩⟩
  · have h5X : ((f : Int) == 5) = false := by simp; omega
    by_cases h4 : f = 4
    · subst h4
      cases hl : s.list with
      | false =>
        rw [hl] at h0
        go_wp2
        go_ret
        have ht : thrL s y = (s.i, true) := by unfold thrL; rw [if_neg (by rw [HF.out]; simp), if_neg (by rw [hl]; simp)]
        exact ⟨by rw [ht]; rfl, w1, HE1.out, .inr ⟨rfl, by rw [ht]⟩⟩
      | true =>
        rw [hl] at h0
        go_wp2_with fail
        obtain ⟨r, hr⟩ : ∃ r, atL y.kind y.i y.j s.i = r := ⟨_, rfl⟩
        have HRR := hid hr
        have HCALL := hid (fun w' => at_any y.kind p (.string y.key) (.int .i64 y.n) v0 v1 v2 v3 v4 (.string y.s) y.i y.j s.i w' HSI.out HYI.out HYJ.out)
        rw [hr] at HCALL
        clear hr
        refine wp_region_parts [] [0, 1, 2, 3, 4, 5, 6, 7, 8, 9, 10] [] (specOf [(5, fun v w' => v = .tuple #[.int .i64 r.1, .bool r.2])]) (fun w' => Ext w1 w') (stable_cons (fun v w w' h he => h) stable_nil) (stableC_ext _) (by kernel_rfl) (by kernel_rfl) (Keep.drew (Keep.refl _ _)) ?_
        refine pure_nil ?_
        iterate 5
          (try simp only [Act.put, List.setIfInBounds_toArray, List.set_cons_zero, List.set_cons_succ])
          refine growP_run rfl rfl rfl ?_
          apply Exists.intro
          refine ⟨fun w' hC hK => ?_, ?_⟩
          · have h1 := (hC.cell (lt_of_cell h1) id).trans h1
            have a0 := (hC.cell (lt_of_cell a0) id).trans a0
            have a1 := (hC.cell (lt_of_cell a1) id).trans a1
            have a2 := (hC.cell (lt_of_cell a2) id).trans a2
            have a3 := (hC.cell (lt_of_cell a3) id).trans a3
            have a4 := (hC.cell (lt_of_cell a4) id).trans a4
            have a5 := (hC.cell (lt_of_cell a5) id).trans a5
            have a6 := (hC.cell (lt_of_cell a6) id).trans a6
            have a7 := (hC.cell (lt_of_cell a7) id).trans a7
            have a8 := (hC.cell (lt_of_cell a8) id).trans a8
            have a9 := (hC.cell (lt_of_cell a9) id).trans a9
            have a10 := (hC.cell (lt_of_cell a10) id).trans a10
            have a11 := (hC.cell (lt_of_cell a11) id).trans a11
            go_simp
            rfl
        (try simp only [Act.put, List.setIfInBounds_toArray, List.set_cons_zero, List.set_cons_succ])
        refine growP_eff rfl rfl rfl (fun w' hC hK => ?_) (fun v5 hv5 => ?_)
        · unfold growAt
          go_simp
          refine grow_call ((HCALL.out w').mono ?_)
          rintro e w'' ⟨rfl, h2⟩
          exact ⟨_, rfl, h2, rfl⟩
        obtain ⟨_, _, rfl⟩ := hv5.head
        iterate 5
          (try simp only [Act.put, List.setIfInBounds_toArray, List.set_cons_zero, List.set_cons_succ])
          refine growP_run rfl rfl rfl ?_
          apply Exists.intro
          refine ⟨fun w' hC hK => ?_, ?_⟩
          · go_simp
            rfl
        refine growP_nil fun w2 hC hK => ?_
        have hC : Ext w1 w2 := hC
        have HC := hid hC
        have h3' : w2.frozen? ⟨g, o + 1, none⟩ = false := by rw [hC.frozen (lt_of_cell h1) id]; exact h3
        replace h1 := (hC.cell (lt_of_cell h1) id).trans h1
        clear hC hK
        change wpList _ _ _ [] _ _
        (try simp only [Act.put, List.setIfInBounds_toArray, List.set_cons_zero, List.set_cons_succ])
        refine NoPanic.normal ?_
        go_wp2
        go_ret
        have ht : thrL s y = r := by unfold thrL; rw [if_neg (by rw [HF.out]; simp), if_pos ⟨HF.out, hl⟩, HRR.out]
        exact ⟨by rw [ht]; rfl, w2, HE1.out.ext HC.out, .inl (by rw [ht])⟩
    · have h4X : ((f : Int) == 4) = false := by simp; omega
      go_wp2
      go_ret
      have ht : thrL s y = (s.i, true) := by unfold thrL; rw [if_neg (fun h => h5 (HF.out.symm.trans h.1)), if_neg (fun h => h4 (HF.out.symm.trans h.1))]
      exact ⟨by rw [ht]; rfl, w1, HE1.out, .inr ⟨rfl, by rw [ht]⟩⟩
end Go.Proofs.YtioplgfopillnaaDoor

/- comp.Copy, its path's row in sight. -/
set_option linter.unusedSimpArgs false
set_option linter.unusedVariables false
namespace Go.Proofs.YtioplgfopillnaaDoor
open Go.RowKit
set_option linter.unusedVariables false

theorem own_stF {w : World} {base : Nat} {T : TypeId} {S S' : BS} {v : Value} {xs : List St} (h : Own ESt w base T S v xs) : Own ESt w base T S' v xs := by
  rcases h with h | ⟨g', cap, cur, e, h1, h2, h3, h4, h5, h6⟩
  · exact .inl h
  · exact .inr ⟨g', cap, cur, e, h1, h2, h3, h4, h5, cells_st h6⟩
def PathP (b : Nat) (p : List St) (n m : Nat) (v : Value) (w : World) : Prop := b ≤ n ∧ ∃ A c, v = .slice A p.length c ∧ Own ESt w n TSTEP (fun _ => False) v p ∧ ∀ g, v.ownBlock = some g → g < m
theorem PathP.ext {b n m : Nat} {p : List St} {v : Value} {w w' : World} (h : PathP b p n m v w) (he : Ext w w') : PathP b p n m v w' := by
  obtain ⟨h0, A, c, e, h1, h2⟩ := h; exact ⟨h0, A, c, e, h1.ext ESt.ok he, h2⟩
def ValP (b : Nat) (x : V) (n m : Nat) (v : Value) (w : World) : Prop := b ≤ n ∧ VIs w (fun k => n ≤ k ∧ k < m) v x
theorem ValP.ext {b n m : Nat} {x : V} {v : Value} {w w' : World} (h : ValP b x n m v w) (he : Ext w w') : ValP b x n m v w' := ⟨h.1, h.2.ext he⟩
def CopyO (w : World) (c : Cp) (e : Ending) (w' : World) : Prop := ∃ pv lv ov, e = .returned (.agg (cpCells c pv lv ov)) ∧ Own ESt w' w.heap.size TSTEP (fun _ => False) pv c.path ∧ Sl EVal w' (fun k => w.heap.size ≤ k ∧ pv.ownBlock ≠ some k) lv c.v.l ∧ Sl EField w' (fun k => w.heap.size ≤ k ∧ pv.ownBlock ≠ some k) ov c.v.o ∧ Ext w w'
set_option maxRecDepth 20000 in
set_option maxHeartbeats 3200000 in
theorem comp_copyO (w : World) (S : BS) (u : Value) (c : Cp) (h : CAt w S u c) (hp : c.path.length ≤ 1000) (hv : c.v.size ≤ 1000000) :
    Calls Tryd.prog 25 #[u] w fun e w' => CopyO w c e w' := by
  obtain ⟨pv, lv, ov, rfl, h1, h2, h3⟩ := h.cut
  obtain ⟨Ap, cp, rfl, hpl, hpm⟩ := h1.shape
  obtain ⟨Al, cl, rfl, hll, hlm⟩ := h2.shape
  obtain ⟨Ao, co, rfl, hol, hom⟩ := h3.shape
  obtain ⟨W, hW⟩ : ∃ W, (w.alloc (.cells (cpCells c (.slice Ap c.path.length cp) (.slice Al c.v.l.length cl) (.slice Ao c.v.o.length co)) TCMP)) = W := ⟨_, rfl⟩
  have hE : Ext w W := by rw [← hW]; exact (Keep.refl _ _).alloc _
  have hb : Blk W w.heap.size TCMP (cpCells c (.slice Ap c.path.length cp) (.slice Al c.v.l.length cl) (.slice Ao c.v.o.length co)) := by rw [← hW]; exact Blk.new _ _ _
  obtain ⟨W2, hW2⟩ : ∃ W2, W.alloc (.cells ZCMP TCMP) = W2 := ⟨_, rfl⟩
  have hE2 : Ext W W2 := by rw [← hW2]; exact (Keep.refl _ _).alloc _
  have hr : Blk W2 W.heap.size TCMP ZCMP := by rw [← hW2]; exact Blk.new _ _ _
  have hb2 := hb.keep hE2 id
  have p1 := hb2.cell 1
  have v0 := hb2.cell 6
  have v1 := hb2.cell 7
  have v2 := hb2.cell 8
  have v3 := hb2.cell 9
  have v4 := hb2.cell 10
  simp at p1 v0 v1 v2 v3 v4
  have hsz : W.heap.size = w.heap.size + 1 := by rw [← hW]; simp
  have hsz2 : W2.heap.size = W.heap.size + 1 := by rw [← hW2]; simp
  have H1 := hid ((h1.ext ESt.ok hE).ext ESt.ok hE2)
  have HV := hid (show VAt W2 (fun k => S k ∧ k < w.heap.size) (.agg #[U8 c.v.kind, .int .i64 c.v.n, .string c.v.s, .slice Al c.v.l.length cl, .slice Ao c.v.o.length co]) c.v from ⟨_, _, rfl, (h2.ext EVal.ok hE).ext EVal.ok hE2, (h3.ext EField.ok hE).ext EField.ok hE2⟩)
  have HB := hid hb2
  have HR := hid hr
  have HE := hid (hE.ext hE2)
  have HSZ := hid hsz
  have HSZ2 := hid hsz2
  rw [hsz] at hr
  clear h1 h2 h3 hb hE h hE2 hb2 hr hsz hsz2
  go_enter Tryd.func25, Tryd.ntmps25
  go_wp2_with fail
  refine H.wp_region_parts [] [0, 1, 2, 3, 4, 5, 6] [7, 8, 9] (H.specOf [(2, PathP W2.heap.size c.path), (5, ValP W2.heap.size c.v)]) (fun w' => Ext W2 w') (H.stable_cons (fun n m v w w' h he => h.ext he) (H.stable_cons (fun n m v w w' h he => h.ext he) H.stable_nil)) (H.stableC_ext _) (by kernel_rfl) (by kernel_rfl) (Keep.drew (Keep.refl _ _)) ?_
  refine H.pure_nil ?_
  iterate 2
    (try simp only [Act.put, List.setIfInBounds_toArray, List.set_cons_zero, List.set_cons_succ])
    refine H.growP_run rfl rfl rfl ?_
    apply Exists.intro
    refine ⟨fun w' hC hK => ?_, ?_⟩
    · have p1 := (hC.cell (lt_of_cell p1) id).trans p1
      go_simp
      rfl
  (try simp only [Act.put, List.setIfInBounds_toArray, List.set_cons_zero, List.set_cons_succ])
  refine H.growP_eff rfl rfl rfl (fun w' hC hK => ?_) (fun v2 nv2 mv2 hv2 => ?_)
  · unfold H.growAt
    go_simp
    refine H.grow_call ((clone_steps _ _ _ _ (H1.out.ext ESt.ok hC) (Nat.le_trans hp (by decide)) (fun k h => by have := hC.size; have := HSZ.out; have := HSZ2.out; have := h.2; omega)).mono ?_)
    rintro e w'' ⟨v', rfl, h1, h2⟩
    obtain ⟨A5, c5, rfl, _⟩ := h1.shape
    exact ⟨_, rfl, h2, hC.size, A5, c5, rfl, own_stF h1, fun g e => (h1.lt e).2⟩
  obtain ⟨_, _, _, A2, c2, rfl, _⟩ := hv2.head
  iterate 2
    (try simp only [Act.put, List.setIfInBounds_toArray, List.set_cons_zero, List.set_cons_succ])
    refine H.growP_run rfl rfl rfl ?_
    apply Exists.intro
    refine ⟨fun w' hC hK => ?_, ?_⟩
    · have v0 := (hC.cell (lt_of_cell v0) id).trans v0
      have v1 := (hC.cell (lt_of_cell v1) id).trans v1
      have v2 := (hC.cell (lt_of_cell v2) id).trans v2
      have v3 := (hC.cell (lt_of_cell v3) id).trans v3
      have v4 := (hC.cell (lt_of_cell v4) id).trans v4
      go_simp
      rfl
  (try simp only [Act.put, List.setIfInBounds_toArray, List.set_cons_zero, List.set_cons_succ])
  refine H.growP_eff rfl rfl rfl (fun w' hC hK => ?_) (fun v5 nv5 mv5 hv5 => ?_)
  · unfold H.growAt
    go_simp
    refine H.grow_call ((copy_valT _ c.v (Nat.le_refl _) hv _ _ _ (HV.out.ext hC)).mono ?_)
    rintro e w'' h
    obtain ⟨u', rfl, h1, h2⟩ := h.at_
    exact ⟨_, rfl, h2, hC.size, .of (h1.more fun k hk h => ⟨h, hk⟩)⟩
  obtain ⟨_, _, _, A5, m5, B5, k5, rfl, _⟩ := hv5.head
  iterate 1
    (try simp only [Act.put, List.setIfInBounds_toArray, List.set_cons_zero, List.set_cons_succ])
    refine H.growP_run rfl rfl rfl ?_
    apply Exists.intro
    refine ⟨fun w' hC hK => ?_, ?_⟩
    · go_simp
      rfl
  refine H.growP_nil fun wz hC hK => ?_
  have hC : Ext W2 wz := hC
  have HC := hid hC
  have HPV : Hid (PathP W2.heap.size c.path nv2 mv2 (.slice A2 c.path.length c2) wz) := hid (hK.1 (2, _) (List.mem_cons_of_mem _ List.mem_cons_self)).1
  have HVV : Hid (ValP W2.heap.size c.v nv5 mv5 (.agg #[U8 c.v.kind, .int .i64 c.v.n, .string c.v.s, .slice A5 c.v.l.length m5, .slice B5 c.v.o.length k5]) wz) := hid (hK.1 (5, _) List.mem_cons_self).1
  have HIN := hid (show mv2 ≤ nv5 ∨ mv5 ≤ nv2 from hK.2 (2, _) (List.mem_cons_of_mem _ List.mem_cons_self) (5, _) List.mem_cons_self (by simp))
  have hb := HB.out.keep hC id
  have hr := HR.out.keep hC id
  have HB1 := hid hb
  have HR1 := hid hr
  have hbz : w.heap.size < W.heap.size := by have := HSZ.out; omega
  have f1 := hb.frozen 1
  have f6 := hb.frozen 6
  have f7 := hb.frozen 7
  have f8 := hb.frozen 8
  have f9 := hb.frozen 9
  have f10 := hb.frozen 10
  have y1 := hb.cell 1
  have y6 := hb.cell 6
  have y7 := hb.cell 7
  have y8 := hb.cell 8
  have y9 := hb.cell 9
  have y10 := hb.cell 10
  simp at y1 y6 y7 y8 y9 y10
  obtain ⟨X1, hX1⟩ : ∃ X1, (((((wz.setCell ⟨w.heap.size, 1, none⟩ (.slice A2 c.path.length c2)).setCell ⟨w.heap.size, 6, none⟩ (.int .u8 (c.v.kind.toNat : Int))).setCell ⟨w.heap.size, 7, none⟩ (.int .i64 c.v.n)).setCell ⟨w.heap.size, 8, none⟩ (.string c.v.s)).setCell ⟨w.heap.size, 9, none⟩ (.slice A5 c.v.l.length m5)).setCell ⟨w.heap.size, 10, none⟩ (.slice B5 c.v.o.length k5) = X1 := ⟨_, rfl⟩
  have hk1 : Keep (· = w.heap.size) wz X1 := by
    rw [← hX1]
    exact ((((((Keep.refl (· = w.heap.size) wz).set1 1 _).set1 6 _).set1 7 _).set1 8 _).set1 9 _).set1 10 _
  have hx1 : Blk X1 w.heap.size TCMP (cpCells c (.slice A2 c.path.length c2) (.slice A5 c.v.l.length m5) (.slice B5 c.v.o.length k5)) := by
    rw [← hX1]
    exact (((((hb.set_ 1 (.slice A2 c.path.length c2)).set_ 6 (U8 c.v.kind)).set_ 7 (.int .i64 c.v.n)).set_ 8 (.string c.v.s)).set_ 9 (.slice A5 c.v.l.length m5)).set_ 10 (.slice B5 c.v.o.length k5)
  have hr1 : Blk X1 W.heap.size TCMP ZCMP := hr.keep hk1 (by omega)
  have HX1 := hid hx1
  have HRX := hid hr1
  have HK1 := hid hk1
  have HX := hid hX1
  clear hx1 hr1 hk1 hX1 hb hr hC hK
  change wpList _ _ _ (_ :: _ :: _ :: []) _ _
  (try simp only [Act.put, List.setIfInBounds_toArray, List.set_cons_zero, List.set_cons_succ])
  go_wp2_with fail
  refine NoPanic.normal ?_
  rw [HX.out]
  have a0 := HX1.out.cell 0
  have a1 := HX1.out.cell 1
  have a2 := HX1.out.cell 2
  have a3 := HX1.out.cell 3
  have a4 := HX1.out.cell 4
  have a5 := HX1.out.cell 5
  have a6 := HX1.out.cell 6
  have a7 := HX1.out.cell 7
  have a8 := HX1.out.cell 8
  have a9 := HX1.out.cell 9
  have a10 := HX1.out.cell 10
  have a11 := HX1.out.cell 11
  have z0 := HRX.out.cell 0
  have g0 := HRX.out.frozen 0
  have z1 := HRX.out.cell 1
  have g1 := HRX.out.frozen 1
  have z2 := HRX.out.cell 2
  have g2 := HRX.out.frozen 2
  have z3 := HRX.out.cell 3
  have g3 := HRX.out.frozen 3
  have z4 := HRX.out.cell 4
  have g4 := HRX.out.frozen 4
  have z5 := HRX.out.cell 5
  have g5 := HRX.out.frozen 5
  have z6 := HRX.out.cell 6
  have g6 := HRX.out.frozen 6
  have z7 := HRX.out.cell 7
  have g7 := HRX.out.frozen 7
  have z8 := HRX.out.cell 8
  have g8 := HRX.out.frozen 8
  have z9 := HRX.out.cell 9
  have g9 := HRX.out.frozen 9
  have z10 := HRX.out.cell 10
  have g10 := HRX.out.frozen 10
  have z11 := HRX.out.cell 11
  have g11 := HRX.out.frozen 11
  simp at a0 a1 a2 a3 a4 a5 a6 a7 a8 a9 a10 a11 z0 z1 z2 z3 z4 z5 z6 z7 z8 z9 z10 z11
  have hne : w.heap.size ≠ W.heap.size := by omega
  clear f1 f6 f7 f8 f9 f10 y1 y6 y7 y8 y9 y10 HX
  have HK2 := hid (show Keep (· = W.heap.size) X1 ((((((((((((X1.setCell ⟨W.heap.size, 0, none⟩ (.int .u8 (c.kind.toNat : Int))).setCell ⟨W.heap.size, 1, none⟩ (.slice A2 c.path.length c2)).setCell ⟨W.heap.size, 2, none⟩ (.string c.key)).setCell ⟨W.heap.size, 3, none⟩ (.int .i64 c.i)).setCell ⟨W.heap.size, 4, none⟩ (.int .i64 c.j)).setCell ⟨W.heap.size, 5, none⟩ (.int .i64 c.n)).setCell ⟨W.heap.size, 6, none⟩ (.int .u8 (c.v.kind.toNat : Int))).setCell ⟨W.heap.size, 7, none⟩ (.int .i64 c.v.n)).setCell ⟨W.heap.size, 8, none⟩ (.string c.v.s)).setCell ⟨W.heap.size, 9, none⟩ (.slice A5 c.v.l.length m5)).setCell ⟨W.heap.size, 10, none⟩ (.slice B5 c.v.o.length k5)).setCell ⟨W.heap.size, 11, none⟩ (.string c.s)) from (((((((((((((Keep.refl (· = W.heap.size) X1).set1 0 _).set1 1 _).set1 2 _).set1 3 _).set1 4 _).set1 5 _).set1 6 _).set1 7 _).set1 8 _).set1 9 _).set1 10 _).set1 11 _))
  go_wp2
  refine bodyPost_ret (v := .agg (cpCells c (.slice A2 c.path.length c2) (.slice A5 c.v.l.length m5) (.slice B5 c.v.o.length k5))) (by simp [results, Tryd.results25, go_sem, z0, z1, z2, z3, z4, z5, z6, z7, z8, z9, z10, z11]) rfl ?_
  have hs2 := HSZ2.out
  obtain ⟨hn2, A6, c6, e6, hp1, hlt⟩ := HPV.out
  injection e6 with e1 _ e2
  subst e1 e2
  obtain ⟨hn5, A7, n7, B7, k7, e7, hl1, ho1⟩ := HVV.out
  simp only [Value.agg.injEq] at e7
  simp at e7
  obtain ⟨⟨rfl, rfl⟩, rfl, rfl⟩ := e7
  have hin := HIN.out
  have hap : ∀ k, nv5 ≤ k ∧ k < mv5 → (Value.slice A2 c.path.length c2).ownBlock ≠ some k := fun k hk e => by
    have h1 := hp1.lt e
    have h2 := hlt k e
    omega
  refine ⟨_, _, _, rfl, ((hp1.keep ESt.ok HK1.out (fun _ h => h.elim) fun g e h => ?_).keep ESt.ok HK2.out (fun _ h => h.elim) fun g e h => ?_).less (by omega), ((hl1.keep EVal.ok HK1.out fun k h e => ?_).keep EVal.ok HK2.out fun k h e => ?_).more EVal.ok fun k _ h => ⟨by omega, hap k h⟩, ((ho1.keep EField.ok HK1.out fun k h e => ?_).keep EField.ok HK2.out fun k h e => ?_).more EField.ok fun k _ h => ⟨by omega, hap k h⟩, ((HE.out.ext HC.out).trans HK1.out fun k hk e => by omega).trans HK2.out fun k hk e => by omega⟩
  · have := (hp1.lt e).1; omega
  · have := (hp1.lt e).1; omega
  all_goals omega
end Go.Proofs.YtioplgfopillnaaDoor

/- RefPutA, RefPut in one. -/
set_option linter.unusedSimpArgs false
set_option linter.unusedVariables false
/- What stands in a copy overwritten. -/
namespace Go.Proofs.YtioplgfopillnaaDoor
open Go.RowKit
set_option linter.unusedVariables false
theorem own_cells2 {α : Type} {E : El α} {w : World} {base : Nat} {T : TypeId} {S : BS} {g cap n : Nat} {xs : List α} (h : Own E w base T S (.slice (some ⟨g, 0, none⟩) n cap) xs) :
    ∃ cur, base ≤ g ∧ n = xs.length ∧ Blk w g T cur ∧ xs.length ≤ cap ∧ cap ≤ maxLen ∧ cur.size = cap * E.size ∧ Cells E w S (cur.toList.take (xs.length * E.size)) xs := by
  rcases h with ⟨h, _⟩ | ⟨g', cap', cur, e, h1, h2, h3, h4, h5, h6⟩
  · cases h
  · injection e with e1 e2 e3
    injection e1 with e1
    injection e1 with e1 _ _
    subst e1 e2 e3
    exact ⟨cur, h1, rfl, h2, h3, h4, h5, h6⟩
theorem take_mid {l m : List Value} {o k n : Nat} (hm : m.length = k) (ho : o + k ≤ n) (hn : n ≤ l.length) : (l.take o ++ m ++ l.drop (o + k)).take n = (l.take n).take o ++ (m ++ (l.take n).drop (o + k)) := by
  have h1 : (l.take o).length = o := by rw [List.length_take]; omega
  rw [List.append_assoc, List.take_append, List.take_of_length_le (l := l.take o) (by omega), List.take_append, List.take_of_length_le (l := m) (by omega), List.drop_take, List.take_take, Nat.min_eq_left (by omega), h1, hm,
    show n - o - k = n - (o + k) from by omega]
theorem own_set {α : Type} {E : El α} (hE : E.Ok) {w w' : World} {base : Nat} {T : TypeId} {S S2 : BS} {g cap i : Nat} {xs : List α} {m : List Value} {x : α} {cur cur' : Array Value} (hc : Cells E w S (cur.toList.take (xs.length * E.size)) xs) (hbg : base ≤ g) (hcap : xs.length ≤ cap) (hcm : cap ≤ maxLen) (hsz : cur.size = cap * E.size)
    (hi : i < xs.length) (hk : Keep (· = g) w w') (hb' : Blk w' g T cur') (hl' : cur'.toList = cur.toList.take (i * E.size) ++ m ++ cur.toList.drop (i * E.size + E.size)) (hx : E.rd w' S2 m x) (hS : ¬ S g) :
    Own E w' base T (fun q => S q ∨ S2 q) (.slice (some ⟨g, 0, none⟩) xs.length cap) (xs.set i x) := by
  have hml := hE.len hx
  obtain ⟨n, hn⟩ : ∃ n, n = xs.length := ⟨_, rfl⟩
  rw [← hn] at hc hcap hi ⊢
  have h1 := (hc.split hE i (by omega)).1
  have h2 := (hc.split hE (i + 1) (by omega)).2
  have e1 : (i + 1) * E.size = i * E.size + E.size := Nat.succ_mul i _
  have e2 : (i + 1) * E.size ≤ n * E.size := Nat.mul_le_mul_right _ (by omega)
  have e3 : n * E.size ≤ cap * E.size := Nat.mul_le_mul_right _ hcap
  have hlen : cur.toList.length = cap * E.size := by simpa using hsz
  refine .inr ⟨g, cap, cur', by rw [List.length_set, ← hn], hbg, hb', by rw [List.length_set]; omega, hcm, ?_, ?_⟩
  · have := congrArg List.length hl'
    rw [List.length_append, List.length_append, List.length_take, List.length_drop, hml, hlen] at this
    have h4 : cur'.toList.length = cur'.size := by simp
    omega
  rw [List.length_set, hl', List.set_eq_take_append_cons_drop, if_pos (by omega)]
  have key := take_mid (l := cur.toList) (m := m) (o := i * E.size) (k := E.size) (n := n * E.size) hml (by omega) (by omega)
  rw [← hn, key, ← e1]
  exact ((h1.keep hE hk fun k hk e => hS (e ▸ hk)).more hE fun _ _ h => .inl h).append (Cells.append (xs := [x]) (Cells.single (hE.more hx fun _ _ h => .inr h)) ((h2.keep hE hk fun k hk e => hS (e ▸ hk)).more hE fun _ _ h => .inl h))

/-- What is known of a copy: its rows. -/
structure CopyRows (w0 : Nat) (w : World) (v : V) (lv ov : Value) : Prop where
  l : Own EVal w w0 TVAL (fun q => w0 ≤ q ∧ lv.ownBlock ≠ some q ∧ ov.ownBlock ≠ some q) lv v.l
  o : Own EField w w0 TFIELD (fun q => w0 ≤ q ∧ lv.ownBlock ≠ some q ∧ ov.ownBlock ≠ some q) ov v.o
  ne : ∀ g, lv.ownBlock = some g → ov.ownBlock ≠ some g
theorem RCopyIs.rows {w w' : World} {v : V} {e : Ending} (h : RCopyIs w v e w') : ∃ A c A' c', e = .returned (.agg #[U8 v.kind, .int .i64 v.n, .string v.s, .slice A v.l.length c, .slice A' v.o.length c']) ∧ CopyRows w.heap.size w' v (.slice A v.l.length c) (.slice A' v.o.length c') ∧ Ext w w' := by
  obtain ⟨lv, ov, rfl, h1, h2, h3, h4⟩ := h
  obtain ⟨A, c, rfl, _⟩ := h1.shape
  obtain ⟨A', c', rfl, _⟩ := h2.shape
  exact ⟨A, c, A', c', rfl, ⟨h1.more EVal.ok fun q _ h => ⟨h.1, h.2.2.1, h.2.2.2⟩, h2.more EField.ok fun q _ h => ⟨h.1, h.2.2.1, h.2.2.2⟩, h3⟩, h4⟩
theorem CopyRows.ext {w0 : Nat} {w w' : World} {v : V} {lv ov : Value} (h : CopyRows w0 w v lv ov) (he : Ext w w') : CopyRows w0 w' v lv ov := ⟨h.l.ext EVal.ok he, h.o.ext EField.ok he, h.ne⟩
end Go.Proofs.YtioplgfopillnaaDoor

/- The reference's Put, by contract. -/
namespace Go.Proofs.YtioplgfopillnaaDoor
open Go.RowKit
set_option linter.unusedVariables false
/-- What a call that hands back a value and a number leaves. -/
def OutE (y : V) (err : Int) (n m : Nat) (v : Value) (w : World) : Prop := ∃ A c A' c', v = .tuple #[.agg #[U8 y.kind, .int .i64 y.n, .string y.s, .slice A y.l.length c, .slice A' y.o.length c'], .int .i64 err] ∧ VAt w (fun q => n ≤ q ∧ q < m) (.agg #[U8 y.kind, .int .i64 y.n, .string y.s, .slice A y.l.length c, .slice A' y.o.length c']) y
theorem OutE.ext {y : V} {err : Int} {n m : Nat} {v : Value} {w w' : World} (h : OutE y err n m v w) (he : Ext w w') : OutE y err n m v w' := by
  obtain ⟨A, c, A', c', e, h⟩ := h
  exact ⟨A, c, A', c', e, h.ext he⟩
def OutEQ (k : Nat) (y : V) (err : Int) (n m : Nat) (v : Value) (w : World) : Prop := k ≤ n ∧ OutE y err n m v w
theorem OutEQ.ext {k : Nat} {y : V} {err : Int} {n m : Nat} {v : Value} {w w' : World} (h : OutEQ k y err n m v w) (he : Ext w w') : OutEQ k y err n m v w' := ⟨h.1, h.2.ext he⟩
end Go.Proofs.YtioplgfopillnaaDoor

/- The reference's Copy of a component: new memory, the path its own. -/
set_option linter.unusedSimpArgs false
set_option linter.unusedVariables false
namespace Go.Proofs.YtioplgfopillnaaDoor
open Go.RowKit
set_option linter.unusedVariables false

set_option maxRecDepth 20000 in
set_option maxHeartbeats 3200000 in
theorem rcopy6 (w : World) (S : BS) (u : Value) (c : Cp) (h : CAt w S u c) (hp : c.path.length ≤ 1000) (hv : c.v.size ≤ 1000000) :
    Calls Tryd.prog 11 #[u] w fun e w' => CopyO w c e w' := by
  obtain ⟨pv, lv, ov, rfl, h1, h2, h3⟩ := h.cut
  obtain ⟨Ap, cp, rfl, hpl, hpm⟩ := h1.shape
  obtain ⟨Al, cl, rfl, hll, hlm⟩ := h2.shape
  obtain ⟨Ao, co, rfl, hol, hom⟩ := h3.shape
  obtain ⟨W, hW⟩ : ∃ W, (w.alloc (.cells (cpCells c (.slice Ap c.path.length cp) (.slice Al c.v.l.length cl) (.slice Ao c.v.o.length co)) TCMP)) = W := ⟨_, rfl⟩
  have hE : Ext w W := by rw [← hW]; exact (Keep.refl _ _).alloc _
  have hb : Blk W w.heap.size TCMP (cpCells c (.slice Ap c.path.length cp) (.slice Al c.v.l.length cl) (.slice Ao c.v.o.length co)) := by rw [← hW]; exact Blk.new _ _ _
  obtain ⟨W2, hW2⟩ : ∃ W2, W.alloc (.cells ZCMP TCMP) = W2 := ⟨_, rfl⟩
  have hE2 : Ext W W2 := by rw [← hW2]; exact (Keep.refl _ _).alloc _
  have hr : Blk W2 W.heap.size TCMP ZCMP := by rw [← hW2]; exact Blk.new _ _ _
  have hb2 := hb.keep hE2 id
  have p1 := hb2.cell 1
  simp at p1
  have hsz : W.heap.size = w.heap.size + 1 := by rw [← hW]; simp
  have hsz2 : W2.heap.size = W.heap.size + 1 := by rw [← hW2]; simp
  have H1 := hid ((h1.ext ESt.ok hE).ext ESt.ok hE2)
  have HV := hid (show VAt W2 (fun k => S k ∧ k < w.heap.size) (.agg #[U8 c.v.kind, .int .i64 c.v.n, .string c.v.s, .slice Al c.v.l.length cl, .slice Ao c.v.o.length co]) c.v from ⟨_, _, rfl, (h2.ext EVal.ok hE).ext EVal.ok hE2, (h3.ext EField.ok hE).ext EField.ok hE2⟩)
  have HB := hid hb2
  have HR := hid hr
  have HE := hid (hE.ext hE2)
  have HSZ := hid hsz
  have HSZ2 := hid hsz2
  rw [hsz] at hr
  clear h1 h2 h3 hb hE h hE2 hb2 hr hsz hsz2
  go_enter Tryd.func11, Tryd.ntmps11
  go_wp2_with (at_builtin; refine wpList_own_append (v := .slice none 0 0) (y := .slice Ap c.path.length cp) (xs := []) (ys := c.path) (base := W2.heap.size) (S := fun _ => False) _ rfl (.tmp 4) (.tmp 6) ESt.ok ty_st rfl rfl rfl (Own.nil _ _ _ _) H1.out ?c1 ?c2 ?c3 ?c4 ?_)
  case c1 => intro g hg; cases hg
  case c2 => simp; omega
  case c3 => simp [maxLen]; omega
  case c4 => exact Nat.le_refl _
  intro v4 w1 hown hk1 hb1
  have hown : Own ESt w1 W2.heap.size TSTEP (fun _ => False) v4 c.path := own_stF hown
  obtain ⟨A2, c2, rfl, hlc2, hcm2⟩ := hown.shape
  have hE1 : Ext W2 w1 := hk1.mono fun k _ h => by cases h
  have hb := HB.out.keep hE1 id
  have hr := HR.out.keep hE1 id
  have hbz : w.heap.size < W.heap.size := by have := HSZ.out; omega
  have f1 := hb.frozen 1
  have y1 := hb.cell 1
  simp at y1
  obtain ⟨X1, hX1⟩ : ∃ X1, w1.setCell ⟨w.heap.size, 1, none⟩ (.slice A2 c.path.length c2) = X1 := ⟨_, rfl⟩
  have hk1 : Keep (· = w.heap.size) w1 X1 := by rw [← hX1]; exact (Keep.refl (· = w.heap.size) w1).set1 1 _
  have hx1 : Blk X1 w.heap.size TCMP (cpCells c (.slice A2 c.path.length c2) (.slice Al c.v.l.length cl) (.slice Ao c.v.o.length co)) := by
    rw [← hX1]
    exact hb.set_ 1 (.slice A2 c.path.length c2)
  have hr1 : Blk X1 W.heap.size TCMP ZCMP := hr.keep hk1 (by omega)
  have v0 := hx1.cell 6
  have v1 := hx1.cell 7
  have v2 := hx1.cell 8
  have v3 := hx1.cell 9
  have v4 := hx1.cell 10
  simp at v0 v1 v2 v3 v4
  have HX1 := hid hx1
  have HRX := hid hr1
  have HX := hid hX1
  have hEX : Ext w X1 := (HE.out.ext hE1).trans hk1 fun k hk e => by omega
  have HEX := hid hEX
  have hs1 := hE1.size
  have hs2 := HSZ2.out
  have HO1 := hid (hown.keep ESt.ok hk1 (fun _ h => h.elim) fun g e h => by have := (hown.lt e).1; omega)
  have HV1 := hid ((HV.out.ext hE1).keep hk1 fun k h e => by omega)
  clear hown hb1 hE1 hb hr hk1 hx1 hr1 hEX HV H1 hs1 hs2
  go_wp2_with fail
  refine (rcopy_any _ c.v (Nat.le_refl _) hv _ _ _ HV1.out).mono ?_
  intro e X2 hcp
  obtain ⟨A5, m5, B5, k5, rfl, hrows, hE3⟩ := hcp.rows
  have HRW := hid hrows
  have HE3 := hid hE3
  have hb := HX1.out.keep hE3 id
  have hr := HRX.out.keep hE3 id
  have f6 := hb.frozen 6
  have f7 := hb.frozen 7
  have f8 := hb.frozen 8
  have f9 := hb.frozen 9
  have f10 := hb.frozen 10
  have y6 := hb.cell 6
  have y7 := hb.cell 7
  have y8 := hb.cell 8
  have y9 := hb.cell 9
  have y10 := hb.cell 10
  simp at y6 y7 y8 y9 y10
  obtain ⟨X3, hX3⟩ : ∃ X3, (((((X2.setCell ⟨w.heap.size, 6, none⟩ (.int .u8 (c.v.kind.toNat : Int))).setCell ⟨w.heap.size, 7, none⟩ (.int .i64 c.v.n)).setCell ⟨w.heap.size, 8, none⟩ (.string c.v.s)).setCell ⟨w.heap.size, 9, none⟩ (.slice A5 c.v.l.length m5)).setCell ⟨w.heap.size, 10, none⟩ (.slice B5 c.v.o.length k5)) = X3 := ⟨_, rfl⟩
  have hk3 : Keep (· = w.heap.size) X2 X3 := by
    rw [← hX3]
    exact (((((Keep.refl (· = w.heap.size) X2).set1 6 _).set1 7 _).set1 8 _).set1 9 _).set1 10 _
  have hx3 : Blk X3 w.heap.size TCMP (cpCells c (.slice A2 c.path.length c2) (.slice A5 c.v.l.length m5) (.slice B5 c.v.o.length k5)) := by
    rw [← hX3]
    exact ((((hb.set_ 6 (U8 c.v.kind)).set_ 7 (.int .i64 c.v.n)).set_ 8 (.string c.v.s)).set_ 9 (.slice A5 c.v.l.length m5)).set_ 10 (.slice B5 c.v.o.length k5)
  have hr3 : Blk X3 W.heap.size TCMP ZCMP := hr.keep hk3 (by omega)
  have HX3 := hid hx3
  have HR3 := hid hr3
  have HK3 := hid hk3
  have HXX := hid hX3
  clear hx3 hr3 hk3 hb hr hE3 hrows hcp v0 v1 v2 v3 v4 f1 y1 HX HV1 hX1

  have a0 := HX3.out.cell 0
  have a1 := HX3.out.cell 1
  have a2 := HX3.out.cell 2
  have a3 := HX3.out.cell 3
  have a4 := HX3.out.cell 4
  have a5 := HX3.out.cell 5
  have a6 := HX3.out.cell 6
  have a7 := HX3.out.cell 7
  have a8 := HX3.out.cell 8
  have a9 := HX3.out.cell 9
  have a10 := HX3.out.cell 10
  have a11 := HX3.out.cell 11
  simp at a0 a1 a2 a3 a4 a5 a6 a7 a8 a9 a10 a11
  have z0 := HR3.out.cell 0
  have g0 := HR3.out.frozen 0
  have z1 := HR3.out.cell 1
  have g1 := HR3.out.frozen 1
  have z2 := HR3.out.cell 2
  have g2 := HR3.out.frozen 2
  have z3 := HR3.out.cell 3
  have g3 := HR3.out.frozen 3
  have z4 := HR3.out.cell 4
  have g4 := HR3.out.frozen 4
  have z5 := HR3.out.cell 5
  have g5 := HR3.out.frozen 5
  have z6 := HR3.out.cell 6
  have g6 := HR3.out.frozen 6
  have z7 := HR3.out.cell 7
  have g7 := HR3.out.frozen 7
  have z8 := HR3.out.cell 8
  have g8 := HR3.out.frozen 8
  have z9 := HR3.out.cell 9
  have g9 := HR3.out.frozen 9
  have z10 := HR3.out.cell 10
  have g10 := HR3.out.frozen 10
  have z11 := HR3.out.cell 11
  have g11 := HR3.out.frozen 11
  simp at z0 z1 z2 z3 z4 z5 z6 z7 z8 z9 z10 z11
  have hne : w.heap.size ≠ W.heap.size := by omega
  have HK2 := hid (show Keep (· = W.heap.size) X3 ((((((((((((X3.setCell ⟨W.heap.size, 0, none⟩ (.int .u8 (c.kind.toNat : Int))).setCell ⟨W.heap.size, 1, none⟩ (.slice A2 c.path.length c2)).setCell ⟨W.heap.size, 2, none⟩ (.string c.key)).setCell ⟨W.heap.size, 3, none⟩ (.int .i64 c.i)).setCell ⟨W.heap.size, 4, none⟩ (.int .i64 c.j)).setCell ⟨W.heap.size, 5, none⟩ (.int .i64 c.n)).setCell ⟨W.heap.size, 6, none⟩ (.int .u8 (c.v.kind.toNat : Int))).setCell ⟨W.heap.size, 7, none⟩ (.int .i64 c.v.n)).setCell ⟨W.heap.size, 8, none⟩ (.string c.v.s)).setCell ⟨W.heap.size, 9, none⟩ (.slice A5 c.v.l.length m5)).setCell ⟨W.heap.size, 10, none⟩ (.slice B5 c.v.o.length k5)).setCell ⟨W.heap.size, 11, none⟩ (.string c.s)) from (((((((((((((Keep.refl (· = W.heap.size) X3).set1 0 _).set1 1 _).set1 2 _).set1 3 _).set1 4 _).set1 5 _).set1 6 _).set1 7 _).set1 8 _).set1 9 _).set1 10 _).set1 11 _))
  go_wp2
  refine bodyPost_ret (v := .agg (cpCells c (.slice A2 c.path.length c2) (.slice A5 c.v.l.length m5) (.slice B5 c.v.o.length k5))) (by simp [results, Tryd.results11, go_sem, z0, z1, z2, z3, z4, z5, z6, z7, z8, z9, z10, z11]) rfl ?_
  have hs2 := HSZ2.out
  have hrw := HRW.out
  have hl2 := (hrw.l.sl EVal.ok).more (S' := fun k => X1.heap.size ≤ k) EVal.ok fun k _ h => by
    rcases h with h | h
    · exact h.1
    · exact (hrw.l.lt h).1
  have ho2 := (hrw.o.sl EField.ok).more (S' := fun k => X1.heap.size ≤ k) EField.ok fun k _ h => by
    rcases h with h | h
    · exact h.1
    · exact (hrw.o.lt h).1
  have hxs := HEX.out.size
  have hx1 := HX1.out.lt
  have hr1 := HRX.out.lt
  have hx2 := HE3.out.size
  have hx3 := HK3.out.size
  refine ⟨_, _, _, rfl, (((HO1.out.ext ESt.ok HE3.out).keep ESt.ok HK3.out (fun _ h => h.elim) fun g e h => ?_).keep ESt.ok HK2.out (fun _ h => h.elim) fun g e h => ?_).less (by omega), ((hl2.keep EVal.ok HK3.out fun k h e => ?_).keep EVal.ok HK2.out fun k h e => ?_).more EVal.ok fun k _ h => ⟨by omega, fun e => ?_⟩, ((ho2.keep EField.ok HK3.out fun k h e => ?_).keep EField.ok HK2.out fun k h e => ?_).more EField.ok fun k _ h => ⟨by omega, fun e => ?_⟩, ((HEX.out.ext HE3.out).trans HK3.out fun k hk e => by omega).trans HK2.out fun k hk e => by omega⟩
  · have := (HO1.out.lt e).1; omega
  · have := (HO1.out.lt e).1; omega
  · omega
  · omega
  · have := (HO1.out.lt e).2; omega
  · omega
  · omega
  · have := (HO1.out.lt e).2; omega
end Go.Proofs.YtioplgfopillnaaDoor
