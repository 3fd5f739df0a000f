/- TurnV, TurnW, TurnZ: laid together. -/
import Derived.Test.YtioplgfopillnaaDoorAcB33
import Derived.Test.YtioplgfopillnaaDoorAcB26
import Derived.Test.YtioplgfopillnaaDoorRows
/- The reference's Same (chapter 07) at like lists of components; what One answers has small numbers. -/
set_option linter.unusedSimpArgs false
set_option linter.unusedVariables false
namespace Go.Proofs.YtioplgfopillnaaDoor
open Go.RowKit
set_option linter.unusedVariables false

set_option maxRecDepth 20000 in
set_option maxHeartbeats 6400000 in
theorem rsame7_ok (w : World) (S S2 : BS) (u v : Value) (l : List Cp) (h1 : Sl ECp w S u l) (h2 : Sl ECp w S2 v l) :
    Calls Tryd.prog 12 #[u, v] w fun e w' => e = .returned (.bool true) ∧ Ext w w' := by
  obtain ⟨A, c, rfl, hlc, hcm⟩ := h1.shape
  obtain ⟨B, d, rfl, hld, hdm⟩ := h2.shape
  unfold maxLen at hcm hdm
  obtain ⟨n, hn⟩ : ∃ n, l.length = n := ⟨_, rfl⟩
  have HN := hid hn
  rw [hn] at h1 h2 hlc hld ⊢
  have H1 := hid h1
  have H2 := hid h2
  have hnn : ((n : Int) == (n : Int)) = true := by simp
  clear h1 h2 hn
  go_enter Tryd.func12, Tryd.ntmps12
  go_wp2_with fail
  go_loopw [5] (fun i wr => ∃ j : Nat, j ≤ n ∧ i = .int .i64 j ∧ Ext w wr) (fun i _ => n - (intOf i).toNat)
  case atStart => exact ⟨0, by omega, rfl, Keep.refl _ _⟩
  case round =>
    obtain ⟨j, hj, rfl, hE⟩ := hrel
    have HE := hid hE
    by_cases hlt : j < n
    · have hX : (j : Int) < n := by omega
      have hj' : j < l.length := by rw [HN.out]; exact hlt
      have hS1 := H1.out.ext ECp.ok hE
      have hS2 := H2.out.ext ECp.ok hE
      obtain ⟨b1, o1, c1, rfl, _, _, ⟨pv, lv, ov, rfl, x1, x2, x3⟩, hc1⟩ := hS1.at_ ECp.ok hj'
      obtain ⟨b2, o2, c2, rfl, _, _, ⟨qv, mv, nv, rfl, y1, y2, y3⟩, hc2⟩ := hS2.at_ ECp.ok hj'
      generalize l[j] = x at *
      obtain ⟨Ap, cp, rfl, _⟩ := x1.shape
      obtain ⟨Al, cl, rfl, _⟩ := x2.shape
      obtain ⟨Ao, co, rfl, _⟩ := x3.shape
      obtain ⟨Bp, dp, rfl, _⟩ := y1.shape
      obtain ⟨Bl, dl, rfl, _⟩ := y2.shape
      obtain ⟨Bo, do_, rfl, _⟩ := y3.shape
      have HCX := hid (show CAt wr S (.agg (cpCells x (.slice Ap x.path.length cp) (.slice Al x.v.l.length cl) (.slice Ao x.v.o.length co))) x from ⟨_, _, _, rfl, x1, x2, x3⟩)
      have HCY := hid (show CAt wr S2 (.agg (cpCells x (.slice Bp x.path.length dp) (.slice Bl x.v.l.length dl) (.slice Bo x.v.o.length do_))) x from ⟨_, _, _, rfl, y1, y2, y3⟩)
      have e12 : ECp.size = 12 := rfl
      have g0 := hc1 0 _ rfl
      have k0 := hc2 0 _ rfl
      have g1 := hc1 1 _ rfl
      have k1 := hc2 1 _ rfl
      have g2 := hc1 2 _ rfl
      have k2 := hc2 2 _ rfl
      have g3 := hc1 3 _ rfl
      have k3 := hc2 3 _ rfl
      have g4 := hc1 4 _ rfl
      have k4 := hc2 4 _ rfl
      have g5 := hc1 5 _ rfl
      have k5 := hc2 5 _ rfl
      have g6 := hc1 6 _ rfl
      have k6 := hc2 6 _ rfl
      have g7 := hc1 7 _ rfl
      have k7 := hc2 7 _ rfl
      have g8 := hc1 8 _ rfl
      have k8 := hc2 8 _ rfl
      have g9 := hc1 9 _ rfl
      have k9 := hc2 9 _ rfl
      have g10 := hc1 10 _ rfl
      have k10 := hc2 10 _ rfl
      have g11 := hc1 11 _ rfl
      have k11 := hc2 11 _ rfl
      simp only [e12, Nat.add_zero] at g0 g1 g2 g3 g4 g5 g6 g7 g8 g9 g10 g11 k0 k1 k2 k3 k4 k5 k6 k7 k8 k9 k10 k11
      clear hc1 hc2 x1 x2 x3 y1 y2 y3 hS1 hS2 hE
      go_wp2_with fail
      refine wp_region_parts [] [0, 1, 2, 3, 4, 5, 6, 7, 8, 9] [] (specOf [(8, fun v w' => v = .bool true)]) (fun w' => Ext wr w') (stable_cons (fun v w w' h he => h) stable_nil) (stableC_ext _) (by kernel_rfl) (by kernel_rfl) (Keep.drew (Keep.refl _ _)) ?_
      refine pure_nil ?_
      iterate 8
        (try simp only [Act.put, List.setIfInBounds_toArray, List.set_cons_zero, List.set_cons_succ])
        refine growP_run rfl rfl rfl ?_
        apply Exists.intro
        refine ⟨fun w' hC hK => ?_, ?_⟩
        · have g0 := (hC.cell (lt_of_cell g0) id).trans g0
          have g1 := (hC.cell (lt_of_cell g1) id).trans g1
          have g2 := (hC.cell (lt_of_cell g2) id).trans g2
          have g3 := (hC.cell (lt_of_cell g3) id).trans g3
          have g4 := (hC.cell (lt_of_cell g4) id).trans g4
          have g5 := (hC.cell (lt_of_cell g5) id).trans g5
          have g6 := (hC.cell (lt_of_cell g6) id).trans g6
          have g7 := (hC.cell (lt_of_cell g7) id).trans g7
          have g8 := (hC.cell (lt_of_cell g8) id).trans g8
          have g9 := (hC.cell (lt_of_cell g9) id).trans g9
          have g10 := (hC.cell (lt_of_cell g10) id).trans g10
          have g11 := (hC.cell (lt_of_cell g11) id).trans g11
          have k0 := (hC.cell (lt_of_cell k0) id).trans k0
          have k1 := (hC.cell (lt_of_cell k1) id).trans k1
          have k2 := (hC.cell (lt_of_cell k2) id).trans k2
          have k3 := (hC.cell (lt_of_cell k3) id).trans k3
          have k4 := (hC.cell (lt_of_cell k4) id).trans k4
          have k5 := (hC.cell (lt_of_cell k5) id).trans k5
          have k6 := (hC.cell (lt_of_cell k6) id).trans k6
          have k7 := (hC.cell (lt_of_cell k7) id).trans k7
          have k8 := (hC.cell (lt_of_cell k8) id).trans k8
          have k9 := (hC.cell (lt_of_cell k9) id).trans k9
          have k10 := (hC.cell (lt_of_cell k10) id).trans k10
          have k11 := (hC.cell (lt_of_cell k11) id).trans k11
          go_simp
          rfl
      (try simp only [Act.put, List.setIfInBounds_toArray, List.set_cons_zero, List.set_cons_succ])
      refine growP_eff rfl rfl rfl (fun w' hC hK => ?_) (fun v8 hv8 => ?_)
      · unfold growAt
        go_simp
        refine grow_call ((rsame06_yes w' _ _ _ _ x (HCX.out.ext hC) (HCY.out.ext hC)).mono ?_)
        rintro e w'' ⟨rfl, h2⟩
        exact ⟨_, rfl, h2, rfl⟩
      obtain ⟨_, _, rfl⟩ := hv8.head
      iterate 1
        (try simp only [Act.put, List.setIfInBounds_toArray, List.set_cons_zero, List.set_cons_succ])
        refine growP_run rfl rfl rfl ?_
        apply Exists.intro
        refine ⟨fun w' hC hK => ?_, ?_⟩
        · go_simp
          rfl
      refine growP_nil fun w2 hC hK => ?_
      have HC := hid (show Ext wr w2 from hC)
      clear hC hK
      change wpList _ _ _ [] _ _
      (try simp only [Act.put, List.setIfInBounds_toArray, List.set_cons_zero, List.set_cons_succ])
      refine NoPanic.normal ?_
      go_wp2
      exact ⟨⟨j + 1, by omega, by go_num, HE.out.ext HC.out⟩, by simp [intOf]; omega⟩
    · obtain rfl : j = n := by omega
      have hX : ¬ (j : Int) < j := by omega
      go_wp2
      go_ret
      exact ⟨rfl, HE.out⟩
/-- A path that leads into a value has small numbers. -/
theorem getV_sm : ∀ (p : List St) (v y : V), v.size ≤ 1000 → (∀ s ∈ p, StOk s) → getV v p = some y → ∀ s ∈ p, 0 ≤ s.i ∧ s.i ≤ 1000
  | [], v, y, _, _, _ => fun s hs => by cases hs
  | s :: p, v, y, hv, hk, h => by
    simp only [getV] at h
    cases h1 : stepV v s with
    | none => rw [h1] at h; cases h
    | some loc =>
      rw [h1] at h
      simp only at h
      cases h2 : v.child? loc with
      | none => rw [h2] at h; cases h
      | some z =>
        rw [h2] at h
        intro t ht
        rcases List.mem_cons.1 ht with rfl | ht
        · rcases hk t List.mem_cons_self with ⟨hl, _, h0⟩ | ⟨_, h0⟩
          · refine ⟨h0, ?_⟩
            unfold stepV at h1
            rw [if_pos hl] at h1
            split at h1
            · rename_i hc
              have h3 := V.sizes_len v.l
              have h4 := V.size_eq v
              omega
            · cases h1
          · omega
        · exact getV_sm p z y (Nat.le_trans (child_size h2) hv) (fun s hs => hk s (List.mem_cons_of_mem _ hs)) h t ht

end Go.Proofs.YtioplgfopillnaaDoor

/- The walk of TurnActs. -/
set_option linter.unusedSimpArgs false
set_option linter.unusedVariables false
namespace Go.Proofs.YtioplgfopillnaaDoor
open Go.RowKit
set_option linter.unusedVariables false

theorem asz (l : List UInt8) : (textOf l).size = l.length := by unfold textOf; simp [ByteArray.size]
theorem sm0 : Sm 0 := by unfold Sm; decide
theorem sz0 : (⟨#[]⟩ : ByteArray).size ≤ 100000 := by decide
/-- What One answers has small numbers. -/
theorem OneOk.bd {v : V} {c : Cp} (h : OneOk v c) (hv : v.size ≤ 241) (hsv : SV v) : Bd c := by
  obtain ⟨x, hg, h5, hst, h⟩ := h
  have hp := getV_sm c.path v x (by omega) hst hg
  have hxz : x.size ≤ 241 := Nat.le_trans (getV_size _ _ _ hg) hv
  have hsx := getV_sv _ _ _ hsv hg
  have hps : ∀ s ∈ c.path, Sm s.i := fun s hs => by have := hp s hs; unfold Sm; omega
  rcases h with ⟨hk, n, _, h⟩ | ⟨hk, k, i, n, s, ht, h⟩ | ⟨hk, k, i, j, y, hl, _, h', h⟩ | ⟨hk, k, key, y, hf, _, h', h⟩
  · exact ⟨by rw [h]; exact sm0, by rw [h]; exact sm0, by rw [h]; exact fun h => absurd (show famN (1 : UInt8).toNat = 3 from h) (by decide), by rw [h]; exact sz0, hps⟩
  · have hxs : x.s.size ≤ 1000 := by
      rcases (SV_iff x).1 hsx with ⟨h | h | h | h | h | h, _⟩ <;> first | (exact absurd (hk.symm.trans h.1) (by decide)) | (have := h.2.2.1.2; omega)
    rcases ht with ⟨rfl, ⟨q, rfl, hq⟩, rfl, l, hl, _, rfl⟩ | ⟨rfl, ⟨q, m, rfl, hq, rfl, hm, hqm⟩, rfl⟩
    · exact ⟨by rw [h]; show Sm (q : Int); unfold Sm; omega, by rw [h]; exact sm0, by rw [h]; intro _; show Tm (q : Int) ∧ Tm 0; unfold Tm; omega, by rw [h]; show (textOf _).size ≤ _; rw [asz]; simp; omega, hps⟩
    · exact ⟨by rw [h]; show Sm (q : Int); unfold Sm; omega, by rw [h]; exact sm0, by rw [h]; intro _; show Tm (q : Int) ∧ Tm (m : Int); unfold Tm; omega, by rw [h]; exact sz0, hps⟩
  · have hxl : x.l.length ≤ 1000 := by
      have h1 := V.size_eq x
      have h2 := V.sizes_len x.l
      omega
    obtain ⟨q, rfl, ⟨rfl, hq, rfl⟩ | ⟨rfl, hq, rfl, _⟩ | ⟨rfl, hq, rfl⟩ | ⟨rfl, hq, _, r, rfl, hr⟩⟩ := hl
    · exact ⟨by rw [h]; show Sm (q : Int); unfold Sm; omega, by rw [h]; exact sm0, by rw [h]; exact fun h => absurd (show famN (4 : UInt8).toNat = 3 from h) (by decide), by rw [h]; exact sz0, hps⟩
    · exact ⟨by rw [h]; show Sm (q : Int); unfold Sm; omega, by rw [h]; exact sm0, by rw [h]; exact fun h => absurd (show famN (5 : UInt8).toNat = 3 from h) (by decide), by rw [h]; exact sz0, hps⟩
    · exact ⟨by rw [h]; show Sm (q : Int); unfold Sm; omega, by rw [h]; exact sm0, by rw [h]; exact fun h => absurd (show famN (6 : UInt8).toNat = 3 from h) (by decide), by rw [h]; exact sz0, hps⟩
    · exact ⟨by rw [h]; show Sm (q : Int); unfold Sm; omega, by rw [h]; show Sm (r : Int); unfold Sm; omega, by rw [h]; exact fun h => absurd (show famN (7 : UInt8).toNat = 3 from h) (by decide), by rw [h]; exact sz0, hps⟩
  · rcases hf with ⟨_, rfl | ⟨rfl, _⟩⟩
    · exact ⟨by rw [h]; exact sm0, by rw [h]; exact sm0, by rw [h]; exact fun h => absurd (show famN (2 : UInt8).toNat = 3 from h) (by decide), by rw [h]; exact sz0, hps⟩
    · exact ⟨by rw [h]; exact sm0, by rw [h]; exact sm0, by rw [h]; exact fun h => absurd (show famN (3 : UInt8).toNat = 3 from h) (by decide), by rw [h]; exact sz0, hps⟩
def ListAt (l : List Cp) (v : Value) (w : World) : Prop := ∃ A n c, v = .slice A n c ∧ Sl ECp w (fun _ => True) v l
theorem ListAt.ext {l : List Cp} {v : Value} {w w' : World} (h : ListAt l v w) (he : Ext w w') : ListAt l v w' := by
  obtain ⟨A, n, c, h1, h2⟩ := h; exact ⟨A, n, c, h1, h2.ext ECp.ok he⟩
theorem ListAt.sl {l : List Cp} {v : Value} {w : World} (h : ListAt l v w) : Sl ECp w (fun _ => True) v l := by
  obtain ⟨_, _, _, _, h⟩ := h; exact h
theorem TList.at_ {w w' : World} {l : List Cp} {e : Ending} (h : TList w l e w') : ∃ v, e = .returned v ∧ Ext w w' ∧ ListAt l v w' := by
  obtain ⟨v, rfl, h1, h2⟩ := h
  obtain ⟨A, c, rfl, _⟩ := h1.shape
  exact ⟨_, rfl, h2, A, _, c, rfl, h1.more ECp.ok fun _ _ _ => trivial⟩
set_option maxRecDepth 20000 in
set_option maxHeartbeats 6400000 in
theorem acts07_ok (w : World) (S S1 S2 : BS) (lv av bv : Value) (l : List Tk) (a b : Ac) (left : Bool) (hl : Sl ETok w S lv l) (ha : AAt w S1 av a) (hb : AAt w S2 bv b) (hwa : Wf a) (hwb : Wf b) (hD : DecAny w) :
    Calls Tryd.prog 4 #[lv, av, bv, .bool left] w fun e w' => e = .returned (.bool true) ∧ Ext w w' := by
  obtain ⟨A, c, rfl, hlc, hcm⟩ := hl.shape
  obtain ⟨p1, v1, rfl, a1, a2⟩ := ha
  obtain ⟨p2, v2, rfl, b1, b2⟩ := hb
  obtain ⟨Aa, ca, rfl, _⟩ := a1.shape
  obtain ⟨Av, cv, rfl, _⟩ := a2.shape
  obtain ⟨Ba, da, rfl, _⟩ := b1.shape
  obtain ⟨Bv, dv, rfl, _⟩ := b2.shape
  obtain ⟨W, hW⟩ : ∃ W, (w.alloc (.cells (acCells a (.slice Aa a.path.length ca) (.slice Av a.v.length cv)) TACT)).alloc (.cells (acCells b (.slice Ba b.path.length da) (.slice Bv b.v.length dv)) TACT) = W := ⟨_, rfl⟩
  have hE : Ext w W := by rw [← hW]; exact ((Keep.refl _ _).alloc _).alloc _
  have hba : Blk W w.heap.size TACT (acCells a (.slice Aa a.path.length ca) (.slice Av a.v.length cv)) := by rw [← hW]; exact (Blk.new _ _ _).alloc _
  have hbb : Blk W (w.heap.size + 1) TACT (acCells b (.slice Ba b.path.length da) (.slice Bv b.v.length dv)) := by
    have := Blk.new (w.alloc (.cells (acCells a (.slice Aa a.path.length ca) (.slice Av a.v.length cv)) TACT)) TACT (acCells b (.slice Ba b.path.length da) (.slice Bv b.v.length dv))
    rw [World.size_alloc, hW] at this
    exact this
  have HL := hid (hl.ext ETok.ok hE)
  have HA := hid (show AAt W S1 (.agg (acCells a (.slice Aa a.path.length ca) (.slice Av a.v.length cv))) a from ⟨_, _, rfl, a1.ext EU8.ok hE, a2.ext ETok.ok hE⟩)
  have HB := hid (show AAt W S2 (.agg (acCells b (.slice Ba b.path.length da) (.slice Bv b.v.length dv))) b from ⟨_, _, rfl, b1.ext EU8.ok hE, b2.ext ETok.ok hE⟩)
  have HE := hid hE
  have HBA := hid hba
  have HBB := hid hbb
  have HWA := hid hwa
  have HD := hid hD
  clear hD
  have HWB := hid hwb
  have x0 := hba.cell 0
  have x1 := hba.cell 1
  have x2 := hba.cell 2
  have x3 := hba.cell 3
  have x4 := hba.cell 4
  have x5 := hba.cell 5
  have x6 := hba.cell 6
  simp at x0 x1 x2 x3 x4 x5 x6
  have y0 := hbb.cell 0
  have y1 := hbb.cell 1
  have y2 := hbb.cell 2
  have y3 := hbb.cell 3
  have y4 := hbb.cell 4
  have y5 := hbb.cell 5
  have y6 := hbb.cell 6
  simp at y0 y1 y2 y3 y4 y5 y6
  clear hl a1 a2 b1 b2 hE hba hbb hwa hwb hlc hcm
  go_enter Tryd.func4, Tryd.ntmps4
  go_wp2_with fail
  refine (heavy7_any W _ _ _ _ _ _ l a b HL.out HA.out HB.out).mono ?_
  rintro e W1 ⟨bb, rfl, hE1⟩
  clear hW
  cases bb with
  | true =>
    have HE1 := hid (HE.out.ext hE1)
    clear hE1
    go_wp2_with fail
    refine (known07_ok W1).mono ?_
    rintro e W2 ⟨rfl, hE2⟩
    go_wp2
    go_ret
    exact ⟨rfl, HE1.out.ext hE2⟩
  | false =>
    have HE1 := hid (HE.out.ext hE1)
    have HL1 := hid (HL.out.ext ETok.ok hE1)
    have HA1 := hid (HA.out.ext hE1)
    have HB1 := hid (HB.out.ext hE1)
    have HBA1 := hid (HBA.out.keep hE1 id)
    have HBB1 := hid (HBB.out.keep hE1 id)
    clear hE1 HL HA HB HBA HBB HE
    go_wp2_with fail
    refine (known07_ok W1).mono ?_
    rintro e W2 ⟨rfl, hE2⟩
    have HE2 := hid (HE1.out.ext hE2)
    have HL2 := hid (HL1.out.ext ETok.ok hE2)
    have HA2 := hid (HA1.out.ext hE2)
    have HB2 := hid (HB1.out.ext hE2)
    have HBA2 := hid (HBA1.out.keep hE2 id)
    have HBB2 := hid (HBB1.out.keep hE2 id)
    clear hE2 HL1 HA1 HB1 HBA1 HBB1 HE1 x0 x1 x2 x3 x4 x5 x6 y0 y1 y2 y3 y4 y5 y6
    go_wp2_with fail
    refine (build_ok _ _ _ _ HL2.out).mono ?_
    rintro e W3 ⟨u, x, rfl, hsv, hsz, ⟨lx, ox, rfl, hlx, hox⟩, hE3⟩
    obtain ⟨Ax1, cx1, rfl, _⟩ := hlx.shape
    obtain ⟨Ax2, cx2, rfl, _⟩ := hox.shape
    have hA : Ext W3 (W3.alloc (.cells #[U8 x.kind, .int .i64 x.n, .string x.s, .slice Ax1 x.l.length cx1, .slice Ax2 x.o.length cx2] TVAL)) := (Keep.refl _ _).alloc _
    have HSx := hid (And.intro hsv hsz)
    have HE3 := hid (HE2.out.ext (hE3.ext hA))
    have HA3 := hid (HA2.out.ext (hE3.ext hA))
    have HB3 := hid (HB2.out.ext (hE3.ext hA))
    have HBA3 := hid (HBA2.out.keep (hE3.ext hA) id)
    have HBB3 := hid (HBB2.out.keep (hE3.ext hA) id)
    have HVB := hid (Blk.new W3 TVAL #[U8 x.kind, .int .i64 x.n, .string x.s, .slice Ax1 x.l.length cx1, .slice Ax2 x.o.length cx2])
    have HVx := hid (show VAt (W3.alloc (.cells #[U8 x.kind, .int .i64 x.n, .string x.s, .slice Ax1 x.l.length cx1, .slice Ax2 x.o.length cx2] TVAL)) (fun _ => True) (.agg #[U8 x.kind, .int .i64 x.n, .string x.s, .slice Ax1 x.l.length cx1, .slice Ax2 x.o.length cx2]) x from (VAt.ext ⟨_, _, rfl, hlx, hox⟩ hA).more fun _ _ _ => trivial)
    clear hsv hsz hlx hox hE3 hA HL2 HA2 HB2 HBA2 HBB2 HE2
    have v0 := HVB.out.cell 0
    have v1 := HVB.out.cell 1
    have v2 := HVB.out.cell 2
    have v3 := HVB.out.cell 3
    have v4 := HVB.out.cell 4
    simp at v0 v1 v2 v3 v4
    have x0 := HBA3.out.cell 0
    have x1 := HBA3.out.cell 1
    have x2 := HBA3.out.cell 2
    have x3 := HBA3.out.cell 3
    have x4 := HBA3.out.cell 4
    have x5 := HBA3.out.cell 5
    have x6 := HBA3.out.cell 6
    simp at x0 x1 x2 x3 x4 x5 x6
    have y0 := HBB3.out.cell 0
    have y1 := HBB3.out.cell 1
    have y2 := HBB3.out.cell 2
    have y3 := HBB3.out.cell 3
    have y4 := HBB3.out.cell 4
    have y5 := HBB3.out.cell 5
    have y6 := HBB3.out.cell 6
    simp at y0 y1 y2 y3 y4 y5 y6
    go_wp2_with fail
    generalize W3.alloc (.cells #[U8 x.kind, .int .i64 x.n, .string x.s, .slice Ax1 x.l.length cx1, .slice Ax2 x.o.length cx2] TVAL) = W4 at *
    refine (one6_ok W4 _ _ _ _ x a HVx.out HSx.out.1 HSx.out.2 HA3.out HWA.out.1 HWA.out.2.1 HWA.out.2.2).mono ?_
    intro e W5 h
    obtain ⟨k1, A1, m1, c1, key1, i1, j1, n1, vk1, vn1, vs1, B1, p1, q1, D1, r1, s1, t1, o1, rfl, h1, hE5⟩ := h.form
    have hA : Ext W5 (W5.alloc (.cells #[.int .u8 k1, .slice A1 m1 c1, .string key1, .int .i64 i1, .int .i64 j1, .int .i64 n1, .int .u8 vk1, .int .i64 vn1, .string vs1, .slice B1 p1 q1, .slice D1 r1 s1, .string t1] TCMP)) := (Keep.refl _ _).alloc _
    have HX := hid (Blk.new W5 TCMP #[.int .u8 k1, .slice A1 m1 c1, .string key1, .int .i64 i1, .int .i64 j1, .int .i64 n1, .int .u8 vk1, .int .i64 vn1, .string vs1, .slice B1 p1 q1, .slice D1 r1 s1, .string t1])
    have HE5 := hid (HE3.out.ext (hE5.ext hA))
    have HB5 := hid (HB3.out.ext (hE5.ext hA))
    have HBB5 := hid (HBB3.out.keep (hE5.ext hA) id)
    have HVB5 := hid (HVB.out.keep (hE5.ext hA) id)
    have HV5 := hid (HVx.out.ext (hE5.ext hA))
    have H1 : Hid (o1 = 0 ∨ (o1 = 1 ∧ ∃ c, CAt (W5.alloc (.cells #[.int .u8 k1, .slice A1 m1 c1, .string key1, .int .i64 i1, .int .i64 j1, .int .i64 n1, .int .u8 vk1, .int .i64 vn1, .string vs1, .slice B1 p1 q1, .slice D1 r1 s1, .string t1] TCMP)) (fun q => W4.heap.size ≤ q) (.agg #[.int .u8 k1, .slice A1 m1 c1, .string key1, .int .i64 i1, .int .i64 j1, .int .i64 n1, .int .u8 vk1, .int .i64 vn1, .string vs1, .slice B1 p1 q1, .slice D1 r1 s1, .string t1]) c ∧ OneOk x c)) := hid (by
      rcases h1 with h1 | ⟨h1, c, hc, ho⟩
      · exact .inl h1
      · exact .inr ⟨h1, c, hc.ext hA, ho⟩)
    clear h h1 hE5 hA HA3 HB3 HBA3 HBB3 HE3 HVB HVx v0 v1 v2 v3 v4 x0 x1 x2 x3 x4 x5 x6 y0 y1 y2 y3 y4 y5 y6
    have v0 := HVB5.out.cell 0
    have v1 := HVB5.out.cell 1
    have v2 := HVB5.out.cell 2
    have v3 := HVB5.out.cell 3
    have v4 := HVB5.out.cell 4
    simp at v0 v1 v2 v3 v4
    have y0 := HBB5.out.cell 0
    have y1 := HBB5.out.cell 1
    have y2 := HBB5.out.cell 2
    have y3 := HBB5.out.cell 3
    have y4 := HBB5.out.cell 4
    have y5 := HBB5.out.cell 5
    have y6 := HBB5.out.cell 6
    simp at y0 y1 y2 y3 y4 y5 y6
    go_wp2_with fail
    generalize W5.alloc (.cells #[.int .u8 k1, .slice A1 m1 c1, .string key1, .int .i64 i1, .int .i64 j1, .int .i64 n1, .int .u8 vk1, .int .i64 vn1, .string vs1, .slice B1 p1 q1, .slice D1 r1 s1, .string t1] TCMP) = W6 at *
    refine (one6_ok W6 _ _ _ _ x b HV5.out HSx.out.1 HSx.out.2 HB5.out HWB.out.1 HWB.out.2.1 HWB.out.2.2).mono ?_
    intro e W7 h
    obtain ⟨k2, A2, m2, c2, key2, i2, j2, n2, vk2, vn2, vs2, B2, p2, q2, D2, r2, s2, t2, o2, rfl, h2, hE7⟩ := h.form
    have hA : Ext W7 (W7.alloc (.cells #[.int .u8 k2, .slice A2 m2 c2, .string key2, .int .i64 i2, .int .i64 j2, .int .i64 n2, .int .u8 vk2, .int .i64 vn2, .string vs2, .slice B2 p2 q2, .slice D2 r2 s2, .string t2] TCMP)) := (Keep.refl _ _).alloc _
    have HY := hid (Blk.new W7 TCMP #[.int .u8 k2, .slice A2 m2 c2, .string key2, .int .i64 i2, .int .i64 j2, .int .i64 n2, .int .u8 vk2, .int .i64 vn2, .string vs2, .slice B2 p2 q2, .slice D2 r2 s2, .string t2])
    have HX7 := hid (HX.out.keep (hE7.ext hA) id)
    have HE7 := hid (HE5.out.ext (hE7.ext hA))
    have HEA := hid (hE7.ext hA)
    have HA7 := hid hA
    have H2 := hid h2
    clear h h2 hE7 hA HB5 HBB5 HE5 HVB5 HV5 HX v0 v1 v2 v3 v4 y0 y1 y2 y3 y4 y5 y6
    rcases H1.out with rfl | ⟨rfl, cx, hcx, hox⟩
    · clear H1 H2
      go_wp2_with fail
      generalize W7.alloc (.cells #[.int .u8 k2, .slice A2 m2 c2, .string key2, .int .i64 i2, .int .i64 j2, .int .i64 n2, .int .u8 vk2, .int .i64 vn2, .string vs2, .slice B2 p2 q2, .slice D2 r2 s2, .string t2] TCMP) = W8 at *
      refine wp_region_grow (specOf []) (fun w' => Ext W8 w') stable_nil (stableC_ext _) (by kernel_rfl) (by kernel_rfl) (Keep.drew (Keep.refl _ _)) ?_
      iterate 3
        (try simp only [Act.put, List.setIfInBounds_toArray, List.set_cons_zero, List.set_cons_succ])
        refine grow_run rfl rfl rfl ?_
        apply Exists.intro
        refine ⟨fun w' hC hK => ?_, ?_⟩
        · go_simp
          rfl
      iterate 2
        (try simp only [Act.put, List.setIfInBounds_toArray, List.set_cons_zero, List.set_cons_succ])
        with_reducible refine grow_skip ?_ ?_ ?_
        · rfl
        · rfl
      iterate 2
        (try simp only [Act.put, List.setIfInBounds_toArray, List.set_cons_zero, List.set_cons_succ])
        refine grow_run rfl rfl rfl ?_
        apply Exists.intro
        refine ⟨fun w' hC hK => ?_, ?_⟩
        · go_simp
          rfl
      iterate 9
        (try simp only [Act.put, List.setIfInBounds_toArray, List.set_cons_zero, List.set_cons_succ])
        with_reducible refine grow_skip ?_ ?_ ?_
        · rfl
        · rfl
      iterate 2
        (try simp only [Act.put, List.setIfInBounds_toArray, List.set_cons_zero, List.set_cons_succ])
        refine grow_run rfl rfl rfl ?_
        apply Exists.intro
        refine ⟨fun w' hC hK => ?_, ?_⟩
        · go_simp
          rfl
      refine grow_nil fun w2 hC hK => ?_
      have HC := hid (show Ext W8 w2 from hC)
      clear hC hK
      go_wp2
      go_ret
      exact ⟨rfl, HE7.out.ext HC.out⟩
    · rcases H2.out with rfl | ⟨rfl, cy, hcy, hoy⟩
      · clear H1 H2 hcx hox
        go_wp2_with fail
        generalize W7.alloc (.cells #[.int .u8 k2, .slice A2 m2 c2, .string key2, .int .i64 i2, .int .i64 j2, .int .i64 n2, .int .u8 vk2, .int .i64 vn2, .string vs2, .slice B2 p2 q2, .slice D2 r2 s2, .string t2] TCMP) = W8 at *
        refine wp_region_grow (specOf []) (fun w' => Ext W8 w') stable_nil (stableC_ext _) (by kernel_rfl) (by kernel_rfl) (Keep.drew (Keep.refl _ _)) ?_
        iterate 7
          (try simp only [Act.put, List.setIfInBounds_toArray, List.set_cons_zero, List.set_cons_succ])
          refine grow_run rfl rfl rfl ?_
          apply Exists.intro
          refine ⟨fun w' hC hK => ?_, ?_⟩
          · go_simp
            rfl
        iterate 9
          (try simp only [Act.put, List.setIfInBounds_toArray, List.set_cons_zero, List.set_cons_succ])
          with_reducible refine grow_skip ?_ ?_ ?_
          · rfl
          · rfl
        iterate 2
          (try simp only [Act.put, List.setIfInBounds_toArray, List.set_cons_zero, List.set_cons_succ])
          refine grow_run rfl rfl rfl ?_
          apply Exists.intro
          refine ⟨fun w' hC hK => ?_, ?_⟩
          · go_simp
            rfl
        refine grow_nil fun w2 hC hK => ?_
        have HC := hid (show Ext W8 w2 from hC)
        clear hC hK
        go_wp2
        go_ret
        exact ⟨rfl, HE7.out.ext HC.out⟩
      · have hcx := hcx.ext HEA.out
        have hcy := hcy.ext HA7.out
        have HCX := hid hcx
        have HCY := hid hcy
        have hsx := hox.small
        have HFX := hid (show Fit cx from hox.small)
        have HBX := hid (hox.bd HSx.out.2 HSx.out.1)
        have HBY := hid (hoy.bd HSx.out.2 HSx.out.1)
        have HD8 := hid (HD.out.ext HE7.out)
        clear H1 H2 hox hoy HEA HA7 hsx HD
        obtain ⟨pv1, lv1, ov1, e1, x1, x2, x3⟩ := hcx
        obtain ⟨pv2, lv2, ov2, e2, y1, y2, y3⟩ := hcy
        simp at e1 e2
        obtain ⟨rfl, rfl, rfl, rfl, rfl, rfl, rfl, rfl, rfl, rfl, rfl, rfl⟩ := e1
        obtain ⟨rfl, rfl, rfl, rfl, rfl, rfl, rfl, rfl, rfl, rfl, rfl, rfl⟩ := e2
        clear x1 x2 x3 y1 y2 y3
        obtain ⟨b, hb⟩ : ∃ b : Bool, b = true ↔ cy.path <+: cx.path := by
          by_cases h : cy.path <+: cx.path
          · exact ⟨true, by simp [h]⟩
          · exact ⟨false, by simp [h]⟩
        have HPB := hid hb
        clear hb
        go_wp2_with fail
        generalize W7.alloc (.cells #[.int .u8 (cy.kind.toNat : Int), .slice A2 m2 c2, .string cy.key, .int .i64 cy.i, .int .i64 cy.j, .int .i64 cy.n, .int .u8 (cy.v.kind.toNat : Int), .int .i64 cy.v.n, .string cy.v.s, .slice B2 p2 q2, .slice D2 r2 s2, .string cy.s] TCMP) = W8 at *
        have x0 := HX7.out.cell 0
        have x1 := HX7.out.cell 1
        have x2 := HX7.out.cell 2
        have x3 := HX7.out.cell 3
        have x4 := HX7.out.cell 4
        have x5 := HX7.out.cell 5
        have x6 := HX7.out.cell 6
        have x7 := HX7.out.cell 7
        have x8 := HX7.out.cell 8
        have x9 := HX7.out.cell 9
        have x10 := HX7.out.cell 10
        have x11 := HX7.out.cell 11
        simp at x0 x1 x2 x3 x4 x5 x6 x7 x8 x9 x10 x11
        have y0 := HY.out.cell 0
        have y1 := HY.out.cell 1
        have y2 := HY.out.cell 2
        have y3 := HY.out.cell 3
        have y4 := HY.out.cell 4
        have y5 := HY.out.cell 5
        have y6 := HY.out.cell 6
        have y7 := HY.out.cell 7
        have y8 := HY.out.cell 8
        have y9 := HY.out.cell 9
        have y10 := HY.out.cell 10
        have y11 := HY.out.cell 11
        simp at y0 y1 y2 y3 y4 y5 y6 y7 y8 y9 y10 y11
        refine wp_region_grow (specOf [(10, ListAt (turnC b cx cy left)), (14, ListAt (turnC b cx cy left)), (15, fun v w' => v = .bool true)]) (fun w' => Ext W8 w') (stable_cons (fun v w w' h he => ListAt.ext h he) (stable_cons (fun v w w' h he => ListAt.ext h he) (stable_cons (fun v w w' h he => h) stable_nil))) (stableC_ext _) (by kernel_rfl) (by kernel_rfl) (Keep.drew (Keep.refl _ _)) ?_
        iterate 10
          (try simp only [Act.put, List.setIfInBounds_toArray, List.set_cons_zero, List.set_cons_succ])
          refine grow_run rfl rfl rfl ?_
          apply Exists.intro
          refine ⟨fun w' hC hK => ?_, ?_⟩
          · have x0 := (hC.cell (lt_of_cell x0) id).trans x0
            have x1 := (hC.cell (lt_of_cell x1) id).trans x1
            have x2 := (hC.cell (lt_of_cell x2) id).trans x2
            have x3 := (hC.cell (lt_of_cell x3) id).trans x3
            have x4 := (hC.cell (lt_of_cell x4) id).trans x4
            have x5 := (hC.cell (lt_of_cell x5) id).trans x5
            have x6 := (hC.cell (lt_of_cell x6) id).trans x6
            have x7 := (hC.cell (lt_of_cell x7) id).trans x7
            have x8 := (hC.cell (lt_of_cell x8) id).trans x8
            have x9 := (hC.cell (lt_of_cell x9) id).trans x9
            have x10 := (hC.cell (lt_of_cell x10) id).trans x10
            have x11 := (hC.cell (lt_of_cell x11) id).trans x11
            have y0 := (hC.cell (lt_of_cell y0) id).trans y0
            have y1 := (hC.cell (lt_of_cell y1) id).trans y1
            have y2 := (hC.cell (lt_of_cell y2) id).trans y2
            have y3 := (hC.cell (lt_of_cell y3) id).trans y3
            have y4 := (hC.cell (lt_of_cell y4) id).trans y4
            have y5 := (hC.cell (lt_of_cell y5) id).trans y5
            have y6 := (hC.cell (lt_of_cell y6) id).trans y6
            have y7 := (hC.cell (lt_of_cell y7) id).trans y7
            have y8 := (hC.cell (lt_of_cell y8) id).trans y8
            have y9 := (hC.cell (lt_of_cell y9) id).trans y9
            have y10 := (hC.cell (lt_of_cell y10) id).trans y10
            have y11 := (hC.cell (lt_of_cell y11) id).trans y11
            go_simp
            rfl
        (try simp only [Act.put, List.setIfInBounds_toArray, List.set_cons_zero, List.set_cons_succ])
        refine grow_eff rfl rfl rfl (fun w' hC hK => ?_) (fun v10 hv10 => ?_)
        · unfold growAt
          go_simp
          refine grow_call ((turn_list w' _ _ _ _ cx cy left (HCX.out.ext hC) (HCY.out.ext hC) HFX.out HBX.out HBY.out b HPB.out).mono ?_)
          intro e w'' h
          obtain ⟨v, rfl, h2, h3⟩ := h.at_
          exact ⟨_, rfl, h2, h3⟩
        obtain ⟨_, _, A10, n10, c10, rfl, _⟩ := hv10.head
        iterate 3
          (try simp only [Act.put, List.setIfInBounds_toArray, List.set_cons_zero, List.set_cons_succ])
          refine grow_run rfl rfl rfl ?_
          apply Exists.intro
          refine ⟨fun w' hC hK => ?_, ?_⟩
          · have x0 := (hC.cell (lt_of_cell x0) id).trans x0
            have x1 := (hC.cell (lt_of_cell x1) id).trans x1
            have x2 := (hC.cell (lt_of_cell x2) id).trans x2
            have x3 := (hC.cell (lt_of_cell x3) id).trans x3
            have x4 := (hC.cell (lt_of_cell x4) id).trans x4
            have x5 := (hC.cell (lt_of_cell x5) id).trans x5
            have x6 := (hC.cell (lt_of_cell x6) id).trans x6
            have x7 := (hC.cell (lt_of_cell x7) id).trans x7
            have x8 := (hC.cell (lt_of_cell x8) id).trans x8
            have x9 := (hC.cell (lt_of_cell x9) id).trans x9
            have x10 := (hC.cell (lt_of_cell x10) id).trans x10
            have x11 := (hC.cell (lt_of_cell x11) id).trans x11
            have y0 := (hC.cell (lt_of_cell y0) id).trans y0
            have y1 := (hC.cell (lt_of_cell y1) id).trans y1
            have y2 := (hC.cell (lt_of_cell y2) id).trans y2
            have y3 := (hC.cell (lt_of_cell y3) id).trans y3
            have y4 := (hC.cell (lt_of_cell y4) id).trans y4
            have y5 := (hC.cell (lt_of_cell y5) id).trans y5
            have y6 := (hC.cell (lt_of_cell y6) id).trans y6
            have y7 := (hC.cell (lt_of_cell y7) id).trans y7
            have y8 := (hC.cell (lt_of_cell y8) id).trans y8
            have y9 := (hC.cell (lt_of_cell y9) id).trans y9
            have y10 := (hC.cell (lt_of_cell y10) id).trans y10
            have y11 := (hC.cell (lt_of_cell y11) id).trans y11
            go_simp
            rfl
        (try simp only [Act.put, List.setIfInBounds_toArray, List.set_cons_zero, List.set_cons_succ])
        refine grow_eff rfl rfl rfl (fun w' hC hK => ?_) (fun v14 hv14 => ?_)
        · unfold growAt
          go_simp
          refine grow_call ((rturn7_list w' _ _ _ _ cx cy left (HCX.out.ext hC) (HCY.out.ext hC) HFX.out HBX.out HBY.out b HPB.out (HD8.out.ext hC)).mono ?_)
          intro e w'' h
          obtain ⟨v, rfl, h2, h3⟩ := h.at_
          exact ⟨_, rfl, h2, h3⟩
        obtain ⟨_, _, A14, n14, c14, rfl, _⟩ := hv14.head
        (try simp only [Act.put, List.setIfInBounds_toArray, List.set_cons_zero, List.set_cons_succ])
        refine grow_eff rfl rfl rfl (fun w' hC hK => ?_) (fun v15 hv15 => ?_)
        · have f10 : ListAt (turnC b cx cy left) (.slice A10 n10 c10) w' := hK.get (i := 10) (List.mem_cons_of_mem _ List.mem_cons_self) (by kernel_rfl)
          have f14 : ListAt (turnC b cx cy left) (.slice A14 n14 c14) w' := hK.get (i := 14) List.mem_cons_self (by kernel_rfl)
          have F10 := hid f10.sl
          have F14 := hid f14.sl
          clear f10 f14 hK
          unfold growAt
          go_simp
          refine grow_call ((rsame7_ok w' _ _ _ _ _ F10.out F14.out).mono ?_)
          rintro e w'' ⟨rfl, h2⟩
          exact ⟨_, rfl, h2, rfl⟩
        obtain ⟨_, _, rfl⟩ := hv15.head
        iterate 2
          (try simp only [Act.put, List.setIfInBounds_toArray, List.set_cons_zero, List.set_cons_succ])
          refine grow_run rfl rfl rfl ?_
          apply Exists.intro
          refine ⟨fun w' hC hK => ?_, ?_⟩
          · go_simp
            rfl
        refine grow_nil fun w2 hC hK => ?_
        have HC := hid (show Ext W8 w2 from hC)
        clear hC hK
        go_wp2
        go_ret
        exact ⟨rfl, HE7.out.ext HC.out⟩
end Go.Proofs.YtioplgfopillnaaDoor

/- TurnActs's walk made ready for the lifting; the laid tables. -/
set_option linter.unusedSimpArgs false
set_option linter.unusedVariables false
namespace Go.Proofs.YtioplgfopillnaaDoor
open Go.ChangeShapes Go.WideShapes Go.ChangeAt Go.RowKit Go.Deep
set_option linter.unusedVariables false
theorem dec_laid {w0 : World} {l : List (String × DataW Unit)} (h : laidMetH Tryd.prog l w0) (hp : l = [("unicode/utf8.acceptRanges", Rows.laid_unicode_utf8_acceptRanges), ("unicode/utf8.first", Rows.laid_unicode_utf8_first)]) : DecAny w0 := by
  subst hp
  rw [MakeChecks.laidMetH_plain _ _ _ (by kernel_rfl)] at h
  have e1 : (Rows.laid_unicode_utf8_first : DataW Unit) = Lib.firstData := by kernel_rfl
  have e2 : (Rows.laid_unicode_utf8_acceptRanges : DataW Unit) = Lib.acceptData := by kernel_rfl
  have h3 : Lib.VarReads Tryd.prog w0 "unicode/utf8.first" Lib.firstData := by rw [← e1]; exact Lib.laidMet.reads h (.tail _ (.head _))
  have h4 : Lib.VarReads Tryd.prog w0 "unicode/utf8.acceptRanges" Lib.acceptData := by rw [← e2]; exact Lib.laidMet.reads h (.head _)
  exact dec_any (utf8Tabs_of_readsT { Tryd.laysDR with } ⟨by kernel_rfl, by kernel_rfl, by kernel_rfl, by kernel_rfl, by kernel_rfl, by kernel_rfl, by kernel_rfl⟩ h3 h4)
theorem acts07_lift {Q : Prop} (lv : Value) (l : List Tk) (cs : Array Value) (a : Ac) (ds : Array Value) (b : Ac) (left : Bool) (w : World) (h0 : Sl ETok w (fun k => k < w.heap.size) lv l) (q0 : Q) (h1 : EAc.rd w (fun k => k < w.heap.size) cs.toList a) (q1 : Wf a) (h2 : EAc.rd w (fun k => k < w.heap.size) ds.toList b) (q2 : Wf b) (hD : DecAny w) :
    Calls Tryd.prog 4 #[lv, .agg cs, .agg ds, .bool left] w fun e w' => e = .returned (.bool true) ∧ Below w.heap.size w w' := by
  obtain ⟨p1, v1, e1, a1, a2⟩ := h1
  obtain ⟨p2, v2, e2, b1, b2⟩ := h2
  exact (acts07_ok w _ _ _ lv _ _ l a b left h0 ⟨p1, v1, by rw [← Array.toArray_toList (xs := cs), e1], a1, a2⟩ ⟨p2, v2, by rw [← Array.toArray_toList (xs := ds), e2], b1, b2⟩ q1 q2 hD).mono fun e w' h => ⟨h.1, h.2.toBelow⟩
end Go.Proofs.YtioplgfopillnaaDoor
