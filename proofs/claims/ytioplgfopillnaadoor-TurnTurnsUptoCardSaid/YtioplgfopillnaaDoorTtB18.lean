/- TurnT, TurnL: laid together. -/
import Derived.Test.YtioplgfopillnaaDoorTtB13
import Derived.Test.YtioplgfopillnaaDoorTtB16
import Derived.Test.YtioplgfopillnaaDoorTtB17
/- The reference's Turn, its parts: what a component works on; what goes through what another one works on. -/
set_option linter.unusedSimpArgs false
set_option linter.unusedVariables false
namespace Go.Proofs.YtioplgfopillnaaDoor
open Go.RowKit
set_option linter.unusedVariables false

set_option maxHeartbeats 3200000 in
theorem rfield7_ok (w : World) (k : UInt8) (p key i j n v0 v1 v2 v3 v4 s : Value) :
    Calls Tryd.prog 32 #[.agg #[U8 k, p, key, i, j, n, v0, v1, v2, v3, v4, s]] w fun e w' => e = .returned (.bool (famN k.toNat == 5)) ∧ Ext w w' := by
  have hE : Ext w (w.alloc (.cells #[U8 k, p, key, i, j, n, v0, v1, v2, v3, v4, s] TCMP)) := (Keep.refl _ _).alloc _
  have HE := hid hE
  clear hE
  obtain ⟨q, hq⟩ : ∃ q, k.toNat = q := ⟨_, rfl⟩
  have hc : q = 1 ∨ q = 2 ∨ q = 3 ∨ q = 4 ∨ q = 5 ∨ q = 6 ∨ q = 7 ∨ q = 8 ∨ q = 9 ∨ (q ≠ 1 ∧ q ≠ 2 ∧ q ≠ 3 ∧ q ≠ 4 ∧ q ≠ 5 ∧ q ≠ 6 ∧ q ≠ 7 ∧ q ≠ 8 ∧ q ≠ 9) := by omega
  rw [show U8 k = .int .u8 (q : Int) from by rw [← hq]] at *
  have hfam : famN k.toNat = famN q := by rw [hq]
  rw [hfam]
  clear hq hfam
  rcases hc with rfl | rfl | rfl | rfl | rfl | rfl | rfl | rfl | rfl | ⟨h1, h2, h3, h4, h5, h6, h7, h8, h9⟩
  case' inr.inr.inr.inr.inr.inr.inr.inr.inr =>
    have g2 : ((q : Int) == 2) = false := by simp; omega
    have g3 : ((q : Int) == 3) = false := by simp; omega
    have g4 : ((q : Int) == 4) = false := by simp; omega
    have g5 : ((q : Int) == 5) = false := by simp; omega
    have g6 : ((q : Int) == 6) = false := by simp; omega
    have g7 : ((q : Int) == 7) = false := by simp; omega
    have g8 : ((q : Int) == 8) = false := by simp; omega
    have g9 : ((q : Int) == 9) = false := by simp; omega
    have HF := hid (show famN q = 0 from by unfold famN; rw [if_neg h1, if_neg (by omega), if_neg (by omega), if_neg (by omega)])
    clear h1 h2 h3 h4 h5 h6 h7 h8 h9
  all_goals
    go_enter Tryd.func32, Tryd.ntmps32
    go_wp2
    go_ret
    first | exact ⟨rfl, HE.out⟩ | (rw [HF.out]; exact ⟨rfl, HE.out⟩)

set_option maxHeartbeats 3200000 in
theorem rlist7_ok (w : World) (k : UInt8) (p key i j n v0 v1 v2 v3 v4 s : Value) :
    Calls Tryd.prog 33 #[.agg #[U8 k, p, key, i, j, n, v0, v1, v2, v3, v4, s]] w fun e w' => e = .returned (.bool (famN k.toNat == 4)) ∧ Ext w w' := by
  have hE : Ext w (w.alloc (.cells #[U8 k, p, key, i, j, n, v0, v1, v2, v3, v4, s] TCMP)) := (Keep.refl _ _).alloc _
  have HE := hid hE
  clear hE
  obtain ⟨q, hq⟩ : ∃ q, k.toNat = q := ⟨_, rfl⟩
  have hc : q = 1 ∨ q = 2 ∨ q = 3 ∨ q = 4 ∨ q = 5 ∨ q = 6 ∨ q = 7 ∨ q = 8 ∨ q = 9 ∨ (q ≠ 1 ∧ q ≠ 2 ∧ q ≠ 3 ∧ q ≠ 4 ∧ q ≠ 5 ∧ q ≠ 6 ∧ q ≠ 7 ∧ q ≠ 8 ∧ q ≠ 9) := by omega
  rw [show U8 k = .int .u8 (q : Int) from by rw [← hq]] at *
  have hfam : famN k.toNat = famN q := by rw [hq]
  rw [hfam]
  clear hq hfam
  rcases hc with rfl | rfl | rfl | rfl | rfl | rfl | rfl | rfl | rfl | ⟨h1, h2, h3, h4, h5, h6, h7, h8, h9⟩
  case' inr.inr.inr.inr.inr.inr.inr.inr.inr =>
    have g2 : ((q : Int) == 2) = false := by simp; omega
    have g3 : ((q : Int) == 3) = false := by simp; omega
    have g4 : ((q : Int) == 4) = false := by simp; omega
    have g5 : ((q : Int) == 5) = false := by simp; omega
    have g6 : ((q : Int) == 6) = false := by simp; omega
    have g7 : ((q : Int) == 7) = false := by simp; omega
    have g8 : ((q : Int) == 8) = false := by simp; omega
    have g9 : ((q : Int) == 9) = false := by simp; omega
    have HF := hid (show famN q = 0 from by unfold famN; rw [if_neg h1, if_neg (by omega), if_neg (by omega), if_neg (by omega)])
    clear h1 h2 h3 h4 h5 h6 h7 h8 h9
  all_goals
    go_enter Tryd.func33, Tryd.ntmps33
    go_wp2
    go_ret
    first | exact ⟨rfl, HE.out⟩ | (rw [HF.out]; exact ⟨rfl, HE.out⟩)

set_option maxHeartbeats 3200000 in
theorem rtext7_ok (w : World) (k : UInt8) (p key i j n v0 v1 v2 v3 v4 s : Value) :
    Calls Tryd.prog 35 #[.agg #[U8 k, p, key, i, j, n, v0, v1, v2, v3, v4, s]] w fun e w' => e = .returned (.bool (famN k.toNat == 3)) ∧ Ext w w' := by
  have hE : Ext w (w.alloc (.cells #[U8 k, p, key, i, j, n, v0, v1, v2, v3, v4, s] TCMP)) := (Keep.refl _ _).alloc _
  have HE := hid hE
  clear hE
  obtain ⟨q, hq⟩ : ∃ q, k.toNat = q := ⟨_, rfl⟩
  have hc : q = 1 ∨ q = 2 ∨ q = 3 ∨ q = 4 ∨ q = 5 ∨ q = 6 ∨ q = 7 ∨ q = 8 ∨ q = 9 ∨ (q ≠ 1 ∧ q ≠ 2 ∧ q ≠ 3 ∧ q ≠ 4 ∧ q ≠ 5 ∧ q ≠ 6 ∧ q ≠ 7 ∧ q ≠ 8 ∧ q ≠ 9) := by omega
  rw [show U8 k = .int .u8 (q : Int) from by rw [← hq]] at *
  have hfam : famN k.toNat = famN q := by rw [hq]
  rw [hfam]
  clear hq hfam
  rcases hc with rfl | rfl | rfl | rfl | rfl | rfl | rfl | rfl | rfl | ⟨h1, h2, h3, h4, h5, h6, h7, h8, h9⟩
  case' inr.inr.inr.inr.inr.inr.inr.inr.inr =>
    have g2 : ((q : Int) == 2) = false := by simp; omega
    have g3 : ((q : Int) == 3) = false := by simp; omega
    have g4 : ((q : Int) == 4) = false := by simp; omega
    have g5 : ((q : Int) == 5) = false := by simp; omega
    have g6 : ((q : Int) == 6) = false := by simp; omega
    have g7 : ((q : Int) == 7) = false := by simp; omega
    have g8 : ((q : Int) == 8) = false := by simp; omega
    have g9 : ((q : Int) == 9) = false := by simp; omega
    have HF := hid (show famN q = 0 from by unfold famN; rw [if_neg h1, if_neg (by omega), if_neg (by omega), if_neg (by omega)])
    clear h1 h2 h3 h4 h5 h6 h7 h8 h9
  all_goals
    go_enter Tryd.func35, Tryd.ntmps35
    go_wp2
    go_ret
    first | exact ⟨rfl, HE.out⟩ | (rw [HF.out]; exact ⟨rfl, HE.out⟩)

/-- What is left of x, which goes by its step s through what y works on: x's own path is written. -/
def RBelIs (w : World) (base g cap k : Nat) (x y : Cp) (s : St) (lv ov : Value) (e : Ending) (w' : World) : Prop :=
  ((thrL s y).2 = false ∧ e = .returned (.slice none 0 0) ∧ Ext w w') ∨
  ((thrL s y).2 = true ∧ ∃ b, e = .returned (.slice (some ⟨b, 0, none⟩) 1 1) ∧ w.heap.size ≤ b ∧ Blk w' b TCMP (cpCells x (.slice (some ⟨g, 0, none⟩) x.path.length cap) lv ov) ∧
    Own ESt w' base TSTEP (fun _ => False) (.slice (some ⟨g, 0, none⟩) x.path.length cap) (x.path.set k { s with i := (thrL s y).1 }) ∧ Keep (· = g) w w')
theorem set_selfI {xs : List St} {k : Nat} {s : St} (hk : k < xs.length) (hs : xs[k] = s) : xs.set k { s with i := s.i } = xs := by
  subst hs
  exact List.set_getElem_self hk
theorem rbel_one {w V : World} {base g cap k : Nat} {x y : Cp} {s : St} {lv ov : Value} (ht : thrL s y = (s.i, true)) (hE : Ext w V) (ho : Own ESt V base TSTEP (fun _ => False) (.slice (some ⟨g, 0, none⟩) x.path.length cap) x.path) (hk : k < x.path.length) (hs : x.path[k] = s) :
    RBelIs w base g cap k x y s lv ov (.returned (.slice (some ⟨V.heap.size, 0, none⟩) 1 1)) (V.alloc (.cells (cpCells x (.slice (some ⟨g, 0, none⟩) x.path.length cap) lv ov) TCMP)) := by
  have hE2 := (Keep.refl (fun _ => False) V).alloc (.cells (cpCells x (.slice (some ⟨g, 0, none⟩) x.path.length cap) lv ov) TCMP)
  refine .inr ⟨by rw [ht], _, rfl, hE.size, Blk.new _ _ _, ?_, (hE.ext hE2).mono fun _ _ h => h.elim⟩
  rw [ht, set_selfI hk hs]
  exact ho.ext ESt.ok hE2
theorem rbel_put {w V : World} {base g cap k b : Nat} {x y : Cp} {s : St} {lv ov : Value} {i : Int} (ht : thrL s y = (i, true)) (hE : Keep (· = g) w V) (ho : Own ESt V base TSTEP (fun _ => False) (.slice (some ⟨g, 0, none⟩) x.path.length cap) (x.path.set k { s with i := i })) (hb : b = V.heap.size) :
    RBelIs w base g cap k x y s lv ov (.returned (.slice (some ⟨b, 0, none⟩) 1 1)) (V.alloc (.cells (cpCells x (.slice (some ⟨g, 0, none⟩) x.path.length cap) lv ov) TCMP)) := by
  subst hb
  have hE2 := (Keep.refl (fun _ => False) V).alloc (.cells (cpCells x (.slice (some ⟨g, 0, none⟩) x.path.length cap) lv ov) TCMP)
  refine .inr ⟨by rw [ht], _, rfl, hE.size, Blk.new _ _ _, ?_, hE.trans hE2 fun _ _ h => h.elim⟩
  rw [ht]
  exact ho.ext ESt.ok hE2
set_option maxRecDepth 20000 in
set_option maxHeartbeats 6400000 in
theorem rbelow_ok (w : World) (base g cap k : Nat) (S2 : BS) (t : Value) (x y : Cp) (s : St) (Al : Option Addr) (cl : Nat) (Ao : Option Addr) (co : Nat)
    (ho : Own ESt w base TSTEP (fun _ => False) (.slice (some ⟨g, 0, none⟩) x.path.length cap) x.path) (hy : CAt w S2 t y) (hk : k < x.path.length) (hkk : y.path.length = k) (hs : x.path[k] = s) (hsi : Sm s.i) (hyi : Sm y.i) (hyj : Sm y.j) (hm : x.path.length ≤ 1000) :
    Calls Tryd.prog 31 #[.agg (cpCells x (.slice (some ⟨g, 0, none⟩) x.path.length cap) (.slice Al x.v.l.length cl) (.slice Ao x.v.o.length co)), t] w (RBelIs w base g cap k x y s (.slice Al x.v.l.length cl) (.slice Ao x.v.o.length co)) := by
  subst hkk
  obtain ⟨qv, mv, nv, rfl, k1, k2, k3⟩ := hy
  obtain ⟨Bp, dp, rfl, _⟩ := k1.shape
  obtain ⟨Bl, dl, rfl, _⟩ := k2.shape
  obtain ⟨Bo, do_, rfl, _⟩ := k3.shape
  obtain ⟨hlc, hcm, hg⟩ : x.path.length ≤ cap ∧ cap ≤ maxLen ∧ g < w.heap.size := by
    obtain ⟨cur, _, _, hblk, h1, h2, _⟩ := own_cells2 ho
    exact ⟨h1, h2, hblk.lt⟩
  unfold maxLen at hcm
  obtain ⟨W, hW⟩ : ∃ W, (w.alloc (.cells (cpCells x (.slice (some ⟨g, 0, none⟩) x.path.length cap) (.slice Al x.v.l.length cl) (.slice Ao x.v.o.length co)) TCMP)).alloc (.cells (cpCells y (.slice Bp y.path.length dp) (.slice Bl y.v.l.length dl) (.slice Bo y.v.o.length do_)) TCMP) = W := ⟨_, rfl⟩
  have hE : Ext w W := by rw [← hW]; exact ((Keep.refl _ _).alloc _).alloc _
  have hsz : W.heap.size = w.heap.size + 2 := by rw [← hW]; simp
  have hb : Blk W w.heap.size TCMP (cpCells x (.slice (some ⟨g, 0, none⟩) x.path.length cap) (.slice Al x.v.l.length cl) (.slice Ao x.v.o.length co)) := by rw [← hW]; exact (Blk.new _ _ _).alloc _
  have hc : Blk W (w.heap.size + 1) TCMP (cpCells y (.slice Bp y.path.length dp) (.slice Bl y.v.l.length dl) (.slice Bo y.v.o.length do_)) := by
    have := Blk.new (w.alloc (.cells (cpCells x (.slice (some ⟨g, 0, none⟩) x.path.length cap) (.slice Al x.v.l.length cl) (.slice Ao x.v.o.length co)) TCMP)) TCMP (cpCells y (.slice Bp y.path.length dp) (.slice Bl y.v.l.length dl) (.slice Bo y.v.o.length do_))
    rw [World.size_alloc, hW] at this
    exact this
  have hoW := ho.ext ESt.ok hE
  obtain ⟨s0, s1, s2, s3⟩ := stp_at hoW hk hs
  have a0 := hb.cell 0
  have a1 := hb.cell 1
  have a2 := hb.cell 2
  have a3 := hb.cell 3
  have a4 := hb.cell 4
  have a5 := hb.cell 5
  have a6 := hb.cell 6
  have a7 := hb.cell 7
  have a8 := hb.cell 8
  have a9 := hb.cell 9
  have a10 := hb.cell 10
  have a11 := hb.cell 11
  simp at a0 a1 a2 a3 a4 a5 a6 a7 a8 a9 a10 a11
  have b0 := hc.cell 0
  have b1 := hc.cell 1
  have b2 := hc.cell 2
  have b3 := hc.cell 3
  have b4 := hc.cell 4
  have b5 := hc.cell 5
  have b6 := hc.cell 6
  have b7 := hc.cell 7
  have b8 := hc.cell 8
  have b9 := hc.cell 9
  have b10 := hc.cell 10
  have b11 := hc.cell 11
  simp at b0 b1 b2 b3 b4 b5 b6 b7 b8 b9 b10 b11
  have HO := hid hoW
  have HB := hid hb
  have HC := hid hc
  have HE := hid hE
  have HSZ := hid hsz
  have HK := hid hk
  have HS := hid (show x.path[y.path.length]? = some s from by rw [List.getElem?_eq_getElem hk, hs])
  have HSI := hid hsi
  have HYI := hid hyi
  have HYJ := hid hyj
  have HG := hid hg
  have hkX : (y.path.length : Int) < x.path.length := by omega
  clear k1 k2 k3 ho hoW hb hc hE hsz hk hs hsi hyi hyj hg
  go_enter Tryd.func31, Tryd.ntmps31
  have c0 := fun o : Obj => ((show Ext W (W.alloc o) from (Keep.refl _ _).alloc _).cell (lt_of_cell b0) id).trans b0
  have c1 := fun o : Obj => ((show Ext W (W.alloc o) from (Keep.refl _ _).alloc _).cell (lt_of_cell b1) id).trans b1
  have c2 := fun o : Obj => ((show Ext W (W.alloc o) from (Keep.refl _ _).alloc _).cell (lt_of_cell b2) id).trans b2
  have c3 := fun o : Obj => ((show Ext W (W.alloc o) from (Keep.refl _ _).alloc _).cell (lt_of_cell b3) id).trans b3
  have c4 := fun o : Obj => ((show Ext W (W.alloc o) from (Keep.refl _ _).alloc _).cell (lt_of_cell b4) id).trans b4
  have c5 := fun o : Obj => ((show Ext W (W.alloc o) from (Keep.refl _ _).alloc _).cell (lt_of_cell b5) id).trans b5
  have c6 := fun o : Obj => ((show Ext W (W.alloc o) from (Keep.refl _ _).alloc _).cell (lt_of_cell b6) id).trans b6
  have c7 := fun o : Obj => ((show Ext W (W.alloc o) from (Keep.refl _ _).alloc _).cell (lt_of_cell b7) id).trans b7
  have c8 := fun o : Obj => ((show Ext W (W.alloc o) from (Keep.refl _ _).alloc _).cell (lt_of_cell b8) id).trans b8
  have c9 := fun o : Obj => ((show Ext W (W.alloc o) from (Keep.refl _ _).alloc _).cell (lt_of_cell b9) id).trans b9
  have c10 := fun o : Obj => ((show Ext W (W.alloc o) from (Keep.refl _ _).alloc _).cell (lt_of_cell b10) id).trans b10
  have c11 := fun o : Obj => ((show Ext W (W.alloc o) from (Keep.refl _ _).alloc _).cell (lt_of_cell b11) id).trans b11
  clear b0 b2 b3 b4 b5 b6 b7 b8 b9 b10 b11
  go_wp2_with fail
  obtain ⟨V, hV⟩ : ∃ V, W.alloc (.cells #[.bool s.list, .int .i64 s.i, .string s.key] TSTEP) = V := ⟨_, rfl⟩
  have hEV : Ext W V := by rw [← hV]; exact (Keep.refl _ _).alloc _
  have HBV := hid (HB.out.keep hEV id)
  have HCV := hid (HC.out.keep hEV id)
  have HOV := hid (HO.out.ext ESt.ok hEV)
  have HTV := hid (show Blk V W.heap.size TSTEP #[.bool s.list, .int .i64 s.i, .string s.key] from by rw [← hV]; exact Blk.new _ _ _)
  have HEV := hid (HE.out.ext hEV)
  have hcall := rfield7_ok V y.kind (.slice Bp y.path.length dp) (.string y.key) (.int .i64 y.i) (.int .i64 y.j) (.int .i64 y.n) (U8 y.v.kind) (.int .i64 y.v.n) (.string y.v.s) (.slice Bl y.v.l.length dl) (.slice Bo y.v.o.length do_) (.string y.s)
  rw [← hV] at hcall
  refine hcall.mono ?_
  rw [hV]
  rintro e V1 ⟨rfl, hE1⟩
  obtain ⟨f, hf⟩ : ∃ f, famN y.kind.toNat = f := ⟨_, rfl⟩
  have HF := hid hf
  rw [hf]
  have HBV1 := hid (HBV.out.keep hE1 id)
  have HCV1 := hid (HCV.out.keep hE1 id)
  have HOV1 := hid (HOV.out.ext ESt.ok hE1)
  have HTV1 := hid (HTV.out.keep hE1 id)
  have HEV1 := hid (HEV.out.ext hE1)
  have hsk : x.path[y.path.length]'HK.out = s := (List.getElem?_eq_some_iff.1 HS.out).2
  have HSG := hid hsk
  clear hcall hV hEV hE1 hf hW HB HC HO HE HBV HCV HOV HTV HEV a0 a1 a2 a3 a4 a5 a6 a7 a8 a9 a10 a11 b1 c0 c1 c2 c3 c4 c5 c6 c7 c8 c9 c10 c11 s0 s1 s2 s3
  have a0 := HBV1.out.cell 0
  have b0 := HCV1.out.cell 0
  have a1 := HBV1.out.cell 1
  have b1 := HCV1.out.cell 1
  have a2 := HBV1.out.cell 2
  have b2 := HCV1.out.cell 2
  have a3 := HBV1.out.cell 3
  have b3 := HCV1.out.cell 3
  have a4 := HBV1.out.cell 4
  have b4 := HCV1.out.cell 4
  have a5 := HBV1.out.cell 5
  have b5 := HCV1.out.cell 5
  have a6 := HBV1.out.cell 6
  have b6 := HCV1.out.cell 6
  have a7 := HBV1.out.cell 7
  have b7 := HCV1.out.cell 7
  have a8 := HBV1.out.cell 8
  have b8 := HCV1.out.cell 8
  have a9 := HBV1.out.cell 9
  have b9 := HCV1.out.cell 9
  have a10 := HBV1.out.cell 10
  have b10 := HCV1.out.cell 10
  have a11 := HBV1.out.cell 11
  have b11 := HCV1.out.cell 11
  simp at a0 b0 a1 b1 a2 b2 a3 b3 a4 b4 a5 b5 a6 b6 a7 b7 a8 b8 a9 b9 a10 b10 a11 b11
  have t0 := HTV1.out.cell 0
  have t1 := HTV1.out.cell 1
  have t2 := HTV1.out.cell 2
  simp at t0 t1 t2
  obtain ⟨s0, s1, s2, s3⟩ := stp_at HOV1.out HK.out hsk
  clear hsk
  by_cases h5 : f = 5
  · subst h5
    have q5 : ((5 : Nat) == 5) = true := rfl
    have q4 : ((5 : Nat) == 4) = false := rfl
    cases hl : s.list with
    | false =>
      rw [hl] at t0
      have ht : thrL s y = (s.i, s.key.toList != y.key.toList) := by unfold thrL; rw [if_pos ⟨HF.out, hl⟩]
      have HTH := hid ht
      clear ht
      cases hkey : (s.key.toList == y.key.toList) with
      | true =>
        have HKEY := hid hkey
        go_wp2
        go_ret
        exact .inl ⟨by rw [HTH.out]; show (s.key.toList != y.key.toList) = false; unfold bne; rw [HKEY.out]; rfl, rfl, HEV1.out⟩
      | false =>
        have HKEY := hid hkey
        have HL := hid hl
        go_wp2_with fail
        refine (rlist7_ok V1 y.kind _ _ _ _ _ _ _ _ _ _ _).mono ?_
        rintro e V2 ⟨rfl, hE2⟩
        rw [HF.out]
        have HBV2 := hid (HBV1.out.keep hE2 id)
        have HCV2 := hid (HCV1.out.keep hE2 id)
        have HOV2 := hid (HOV1.out.ext ESt.ok hE2)
        have HTV2 := hid (HTV1.out.keep hE2 id)
        have HEV2 := hid (HEV1.out.ext hE2)
        clear hE2 HBV1 HCV1 HOV1 HTV1 HEV1
        clear a0 a1 a2 a3 a4 a5 a6 a7 a8 a9 a10 a11 b0 b1 b2 b3 b4 b5 b6 b7 b8 b9 b10 b11 t0 t1 t2 s0 s1 s2 s3
        have a0 := HBV2.out.cell 0
        have b0 := HCV2.out.cell 0
        have a1 := HBV2.out.cell 1
        have b1 := HCV2.out.cell 1
        have a2 := HBV2.out.cell 2
        have b2 := HCV2.out.cell 2
        have a3 := HBV2.out.cell 3
        have b3 := HCV2.out.cell 3
        have a4 := HBV2.out.cell 4
        have b4 := HCV2.out.cell 4
        have a5 := HBV2.out.cell 5
        have b5 := HCV2.out.cell 5
        have a6 := HBV2.out.cell 6
        have b6 := HCV2.out.cell 6
        have a7 := HBV2.out.cell 7
        have b7 := HCV2.out.cell 7
        have a8 := HBV2.out.cell 8
        have b8 := HCV2.out.cell 8
        have a9 := HBV2.out.cell 9
        have b9 := HCV2.out.cell 9
        have a10 := HBV2.out.cell 10
        have b10 := HCV2.out.cell 10
        have a11 := HBV2.out.cell 11
        have b11 := HCV2.out.cell 11
        simp at a0 b0 a1 b1 a2 b2 a3 b3 a4 b4 a5 b5 a6 b6 a7 b7 a8 b8 a9 b9 a10 b10 a11 b11
        have t0 := HTV2.out.cell 0
        have t1 := HTV2.out.cell 1
        have t2 := HTV2.out.cell 2
        simp at t0 t1 t2
        obtain ⟨s0, s1, s2, s3⟩ := stp_at HOV2.out HK.out HSG.out
        rw [HL.out] at t0
        go_wp2
        go_ret
        exact rbel_one (by rw [HTH.out]; unfold bne; rw [HKEY.out]; rfl) HEV2.out HOV2.out HK.out HSG.out
    | true =>
      rw [hl] at t0
      have HL := hid hl
      have HTH := hid (show thrL s y = (s.i, true) from by unfold thrL; rw [if_neg (by rw [hl]; simp), if_neg (by rw [HF.out]; simp)])
      go_wp2_with fail
      refine (rlist7_ok V1 y.kind _ _ _ _ _ _ _ _ _ _ _).mono ?_
      rintro e V2 ⟨rfl, hE2⟩
      rw [HF.out]
      have HBV2 := hid (HBV1.out.keep hE2 id)
      have HCV2 := hid (HCV1.out.keep hE2 id)
      have HOV2 := hid (HOV1.out.ext ESt.ok hE2)
      have HTV2 := hid (HTV1.out.keep hE2 id)
      have HEV2 := hid (HEV1.out.ext hE2)
      clear hE2 HBV1 HCV1 HOV1 HTV1 HEV1
      clear a0 a1 a2 a3 a4 a5 a6 a7 a8 a9 a10 a11 b0 b1 b2 b3 b4 b5 b6 b7 b8 b9 b10 b11 t0 t1 t2 s0 s1 s2 s3
      have a0 := HBV2.out.cell 0
      have b0 := HCV2.out.cell 0
      have a1 := HBV2.out.cell 1
      have b1 := HCV2.out.cell 1
      have a2 := HBV2.out.cell 2
      have b2 := HCV2.out.cell 2
      have a3 := HBV2.out.cell 3
      have b3 := HCV2.out.cell 3
      have a4 := HBV2.out.cell 4
      have b4 := HCV2.out.cell 4
      have a5 := HBV2.out.cell 5
      have b5 := HCV2.out.cell 5
      have a6 := HBV2.out.cell 6
      have b6 := HCV2.out.cell 6
      have a7 := HBV2.out.cell 7
      have b7 := HCV2.out.cell 7
      have a8 := HBV2.out.cell 8
      have b8 := HCV2.out.cell 8
      have a9 := HBV2.out.cell 9
      have b9 := HCV2.out.cell 9
      have a10 := HBV2.out.cell 10
      have b10 := HCV2.out.cell 10
      have a11 := HBV2.out.cell 11
      have b11 := HCV2.out.cell 11
      simp at a0 b0 a1 b1 a2 b2 a3 b3 a4 b4 a5 b5 a6 b6 a7 b7 a8 b8 a9 b9 a10 b10 a11 b11
      have t0 := HTV2.out.cell 0
      have t1 := HTV2.out.cell 1
      have t2 := HTV2.out.cell 2
      simp at t0 t1 t2
      obtain ⟨s0, s1, s2, s3⟩ := stp_at HOV2.out HK.out HSG.out
      rw [HL.out] at t0
      go_wp2
      go_ret
      exact rbel_one (HTH.out) HEV2.out HOV2.out HK.out HSG.out
  · have q5 : (f == 5) = false := by simpa using h5
    have H5 := hid h5
    clear h5
    by_cases h4 : f = 4
    · subst h4
      have q4 : ((4 : Nat) == 4) = true := rfl
      cases hl : s.list with
      | false =>
        rw [hl] at t0
        have HL := hid hl
        have HTH := hid (show thrL s y = (s.i, true) from by unfold thrL; rw [if_neg (by rw [HF.out]; simp), if_neg (by rw [hl]; simp)])
        go_wp2_with fail
        refine (rlist7_ok V1 y.kind _ _ _ _ _ _ _ _ _ _ _).mono ?_
        rintro e V2 ⟨rfl, hE2⟩
        rw [HF.out]
        have HBV2 := hid (HBV1.out.keep hE2 id)
        have HCV2 := hid (HCV1.out.keep hE2 id)
        have HOV2 := hid (HOV1.out.ext ESt.ok hE2)
        have HTV2 := hid (HTV1.out.keep hE2 id)
        have HEV2 := hid (HEV1.out.ext hE2)
        clear hE2 HBV1 HCV1 HOV1 HTV1 HEV1
        clear a0 a1 a2 a3 a4 a5 a6 a7 a8 a9 a10 a11 b0 b1 b2 b3 b4 b5 b6 b7 b8 b9 b10 b11 t0 t1 t2 s0 s1 s2 s3
        have a0 := HBV2.out.cell 0
        have b0 := HCV2.out.cell 0
        have a1 := HBV2.out.cell 1
        have b1 := HCV2.out.cell 1
        have a2 := HBV2.out.cell 2
        have b2 := HCV2.out.cell 2
        have a3 := HBV2.out.cell 3
        have b3 := HCV2.out.cell 3
        have a4 := HBV2.out.cell 4
        have b4 := HCV2.out.cell 4
        have a5 := HBV2.out.cell 5
        have b5 := HCV2.out.cell 5
        have a6 := HBV2.out.cell 6
        have b6 := HCV2.out.cell 6
        have a7 := HBV2.out.cell 7
        have b7 := HCV2.out.cell 7
        have a8 := HBV2.out.cell 8
        have b8 := HCV2.out.cell 8
        have a9 := HBV2.out.cell 9
        have b9 := HCV2.out.cell 9
        have a10 := HBV2.out.cell 10
        have b10 := HCV2.out.cell 10
        have a11 := HBV2.out.cell 11
        have b11 := HCV2.out.cell 11
        simp at a0 b0 a1 b1 a2 b2 a3 b3 a4 b4 a5 b5 a6 b6 a7 b7 a8 b8 a9 b9 a10 b10 a11 b11
        have t0 := HTV2.out.cell 0
        have t1 := HTV2.out.cell 1
        have t2 := HTV2.out.cell 2
        simp at t0 t1 t2
        obtain ⟨s0, s1, s2, s3⟩ := stp_at HOV2.out HK.out HSG.out
        rw [HL.out] at t0
        go_wp2
        go_ret
        exact rbel_one (HTH.out) HEV2.out HOV2.out HK.out HSG.out
      | true =>
        rw [hl] at t0
        have HL := hid hl
        obtain ⟨r, hr⟩ : ∃ r, atL y.kind y.i y.j s.i = r := ⟨_, rfl⟩
        obtain ⟨r1, r2⟩ := r
        have HTH := hid (show thrL s y = (r1, r2) from by unfold thrL; rw [if_neg (by rw [HF.out]; simp), if_pos ⟨HF.out, hl⟩, hr])
        have HCALL := hid (fun w' => rat_any y.kind (.slice Bp y.path.length dp) (.string y.key) (.int .i64 y.n) (U8 y.v.kind) (.int .i64 y.v.n) (.string y.v.s) (.slice Bl y.v.l.length dl) (.slice Bo y.v.o.length do_) (.string y.s) y.i y.j s.i w' HSI.out HYI.out HYJ.out)
        rw [hr] at HCALL
        clear hr hl
        go_wp2_with fail
        refine (rlist7_ok V1 y.kind _ _ _ _ _ _ _ _ _ _ _).mono ?_
        rintro e V2 ⟨rfl, hE2⟩
        rw [HF.out]
        have HBV2 := hid (HBV1.out.keep hE2 id)
        have HCV2 := hid (HCV1.out.keep hE2 id)
        have HOV2 := hid (HOV1.out.ext ESt.ok hE2)
        have HTV2 := hid (HTV1.out.keep hE2 id)
        have HEV2 := hid (HEV1.out.ext hE2)
        clear hE2 HBV1 HCV1 HOV1 HTV1 HEV1
        clear a0 a1 a2 a3 a4 a5 a6 a7 a8 a9 a10 a11 b0 b1 b2 b3 b4 b5 b6 b7 b8 b9 b10 b11 t0 t1 t2 s0 s1 s2 s3
        have a0 := HBV2.out.cell 0
        have b0 := HCV2.out.cell 0
        have a1 := HBV2.out.cell 1
        have b1 := HCV2.out.cell 1
        have a2 := HBV2.out.cell 2
        have b2 := HCV2.out.cell 2
        have a3 := HBV2.out.cell 3
        have b3 := HCV2.out.cell 3
        have a4 := HBV2.out.cell 4
        have b4 := HCV2.out.cell 4
        have a5 := HBV2.out.cell 5
        have b5 := HCV2.out.cell 5
        have a6 := HBV2.out.cell 6
        have b6 := HCV2.out.cell 6
        have a7 := HBV2.out.cell 7
        have b7 := HCV2.out.cell 7
        have a8 := HBV2.out.cell 8
        have b8 := HCV2.out.cell 8
        have a9 := HBV2.out.cell 9
        have b9 := HCV2.out.cell 9
        have a10 := HBV2.out.cell 10
        have b10 := HCV2.out.cell 10
        have a11 := HBV2.out.cell 11
        have b11 := HCV2.out.cell 11
        simp at a0 b0 a1 b1 a2 b2 a3 b3 a4 b4 a5 b5 a6 b6 a7 b7 a8 b8 a9 b9 a10 b10 a11 b11
        have t0 := HTV2.out.cell 0
        have t1 := HTV2.out.cell 1
        have t2 := HTV2.out.cell 2
        simp at t0 t1 t2
        obtain ⟨s0, s1, s2, s3⟩ := stp_at HOV2.out HK.out HSG.out
        rw [HL.out] at t0
        go_wp2_with fail
        refine (HCALL.out V2).mono ?_
        rintro e V3 ⟨rfl, hE3⟩
        have HBV3 := hid (HBV2.out.keep hE3 id)
        have HOV3 := hid (HOV2.out.ext ESt.ok hE3)
        have HEV3 := hid (HEV2.out.ext hE3)
        clear hE3 HBV2 HCV2 HOV2 HTV2 HEV2 a0 a1 a2 a3 a4 a5 a6 a7 a8 a9 a10 a11 b0 b1 b2 b3 b4 b5 b6 b7 b8 b9 b10 b11 t0 t1 t2 s0 s1 s2 s3 HCALL
        have a0 := HBV3.out.cell 0
        have a1 := HBV3.out.cell 1
        have a2 := HBV3.out.cell 2
        have a3 := HBV3.out.cell 3
        have a4 := HBV3.out.cell 4
        have a5 := HBV3.out.cell 5
        have a6 := HBV3.out.cell 6
        have a7 := HBV3.out.cell 7
        have a8 := HBV3.out.cell 8
        have a9 := HBV3.out.cell 9
        have a10 := HBV3.out.cell 10
        have a11 := HBV3.out.cell 11
        simp at a0 a1 a2 a3 a4 a5 a6 a7 a8 a9 a10 a11
        obtain ⟨s0, s1, s2, s3⟩ := stp_at HOV3.out HK.out HSG.out
        cases r2 with
        | false =>
          go_wp2
          go_ret
          exact .inl ⟨by rw [HTH.out], rfl, HEV3.out⟩
        | true =>
          have hng : ¬ g = w.heap.size := by have := HG.out; omega
          have hng2 : ¬ w.heap.size = g := by have := HG.out; omega
          have HN1 := hid hng
          have hOS := stp_set HOV3.out HK.out HSG.out r1
          have hKS : Keep (· = g) w (V3.setCell ⟨g, y.path.length * 3 + 1, none⟩ (.int .i64 r1)) := (HEV3.out.mono fun _ _ h => h.elim).set1 _ _
          have HOS := hid hOS
          have HKS := hid hKS
          clear hOS hKS
          go_wp2
          go_ret
          exact rbel_put HTH.out HKS.out HOS.out (by simp)
    · have q4 : (f == 4) = false := by simpa using h4
      have HTH := hid (show thrL s y = (s.i, true) from by unfold thrL; rw [if_neg (fun h => H5.out (HF.out.symm.trans h.1)), if_neg (fun h => h4 (HF.out.symm.trans h.1))])
      clear h4
      go_wp2_with fail
      refine (rlist7_ok V1 y.kind _ _ _ _ _ _ _ _ _ _ _).mono ?_
      rintro e V2 ⟨rfl, hE2⟩
      rw [HF.out]
      have HBV2 := hid (HBV1.out.keep hE2 id)
      have HCV2 := hid (HCV1.out.keep hE2 id)
      have HOV2 := hid (HOV1.out.ext ESt.ok hE2)
      have HTV2 := hid (HTV1.out.keep hE2 id)
      have HEV2 := hid (HEV1.out.ext hE2)
      clear hE2 HBV1 HCV1 HOV1 HTV1 HEV1
      clear a0 a1 a2 a3 a4 a5 a6 a7 a8 a9 a10 a11 b0 b1 b2 b3 b4 b5 b6 b7 b8 b9 b10 b11 t0 t1 t2 s0 s1 s2 s3
      have a0 := HBV2.out.cell 0
      have b0 := HCV2.out.cell 0
      have a1 := HBV2.out.cell 1
      have b1 := HCV2.out.cell 1
      have a2 := HBV2.out.cell 2
      have b2 := HCV2.out.cell 2
      have a3 := HBV2.out.cell 3
      have b3 := HCV2.out.cell 3
      have a4 := HBV2.out.cell 4
      have b4 := HCV2.out.cell 4
      have a5 := HBV2.out.cell 5
      have b5 := HCV2.out.cell 5
      have a6 := HBV2.out.cell 6
      have b6 := HCV2.out.cell 6
      have a7 := HBV2.out.cell 7
      have b7 := HCV2.out.cell 7
      have a8 := HBV2.out.cell 8
      have b8 := HCV2.out.cell 8
      have a9 := HBV2.out.cell 9
      have b9 := HCV2.out.cell 9
      have a10 := HBV2.out.cell 10
      have b10 := HCV2.out.cell 10
      have a11 := HBV2.out.cell 11
      have b11 := HCV2.out.cell 11
      simp at a0 b0 a1 b1 a2 b2 a3 b3 a4 b4 a5 b5 a6 b6 a7 b7 a8 b8 a9 b9 a10 b10 a11 b11
      have t0 := HTV2.out.cell 0
      have t1 := HTV2.out.cell 1
      have t2 := HTV2.out.cell 2
      simp at t0 t1 t2
      obtain ⟨s0, s1, s2, s3⟩ := stp_at HOV2.out HK.out HSG.out
      cases hl : s.list with
      | false =>
        rw [hl] at t0
        go_wp2
        go_ret
        exact rbel_one (HTH.out) HEV2.out HOV2.out HK.out HSG.out
      | true =>
        rw [hl] at t0
        go_wp2
        go_ret
        exact rbel_one (HTH.out) HEV2.out HOV2.out HK.out HSG.out
end Go.Proofs.YtioplgfopillnaaDoor

/- turn.fields, turn.own, turn.beside; known. -/
set_option linter.unusedSimpArgs false
set_option linter.unusedVariables false
namespace Go.Proofs.YtioplgfopillnaaDoor
open Go.RowKit
set_option linter.unusedVariables false

set_option maxHeartbeats 3200000 in
theorem fields_ok (w : World) (k1 k2 : UInt8) (p1 p2 p3 p4 p5 p6 p7 p8 p9 p10 p11 q1 q2 q3 q4 q5 q6 q7 q8 q9 q10 q11 : Value) (left : Bool) :
    Calls Tryd.prog 59 #[.agg #[U8 k1, p1, p2, p3, p4, p5, p6, p7, p8, p9, p10, p11], .agg #[U8 k2, q1, q2, q3, q4, q5, q6, q7, q8, q9, q10, q11], .bool left] w fun e w' => e = .returned (.bool (k1.toNat == 2 && (left || k2.toNat == 3))) ∧ Ext w w' := by
  have HE := hid (show Ext w ((w.alloc (.cells #[U8 k1, p1, p2, p3, p4, p5, p6, p7, p8, p9, p10, p11] TCMP)).alloc (.cells #[U8 k2, q1, q2, q3, q4, q5, q6, q7, q8, q9, q10, q11] TCMP)) from ((Keep.refl _ _).alloc _).alloc _)
  obtain ⟨n, hn⟩ : ∃ n, k1.toNat = n := ⟨_, rfl⟩
  obtain ⟨m, hm⟩ : ∃ m, k2.toNat = m := ⟨_, rfl⟩
  rw [show U8 k1 = .int .u8 (n : Int) from by rw [← hn], show U8 k2 = .int .u8 (m : Int) from by rw [← hm]] at *
  rw [hn, hm]
  clear hn hm
  by_cases h1 : n = 2
  · subst h1
    cases left with
    | true =>
      go_enter Tryd.func59, Tryd.ntmps59
      go_wp2
      go_ret
      exact ⟨rfl, HE.out⟩
    | false =>
      by_cases h2 : m = 3
      · subst h2
        go_enter Tryd.func59, Tryd.ntmps59
        go_wp2
        go_ret
        exact ⟨rfl, HE.out⟩
      · have g2 : ((m : Int) == 3) = false := by simp; omega
        have HR := hid (show (m == 3) = false from by simp; omega)
        clear h2
        go_enter Tryd.func59, Tryd.ntmps59
        go_wp2
        go_ret
        exact ⟨by rw [HR.out]; rfl, HE.out⟩
  · have g1 : ((n : Int) == 2) = false := by simp; omega
    have HR := hid (show (n == 2) = false from by simp; omega)
    clear h1
    go_enter Tryd.func59, Tryd.ntmps59
    go_wp2
    go_ret
    exact ⟨by rw [HR.out]; rfl, HE.out⟩

set_option maxHeartbeats 3200000 in
theorem own_nil (w : World) : Calls Tryd.prog 28 #[.slice none 0 0] w fun e w' => e = .returned (.slice none 0 0) ∧ w' = w := by
  go_enter Tryd.func28, Tryd.ntmps28
  go_wp2_with fail
  refine wp_loop_once ?_
  go_wp2
  go_ret
  exact ⟨rfl, rfl⟩

set_option maxHeartbeats 3200000 in
theorem beside_put (w : World) (key : ByteArray) (p q a3 a4 a5 a6 a7 a8 a9 a10 a11 b3 b4 b5 b6 b7 b8 b9 b10 b11 : Value) :
    Calls Tryd.prog 29 #[.agg #[U8 2, p, .string key, a3, a4, a5, a6, a7, a8, a9, a10, a11], .agg #[U8 2, q, .string key, b3, b4, b5, b6, b7, b8, b9, b10, b11], .bool false] w fun e w' => e = .returned (.slice none 0 0) ∧ Ext w w' := by
  obtain ⟨W, hW⟩ : ∃ W, ((w.alloc (.cells #[U8 2, p, .string key, a3, a4, a5, a6, a7, a8, a9, a10, a11] TCMP)).alloc (.cells #[U8 2, q, .string key, b3, b4, b5, b6, b7, b8, b9, b10, b11] TCMP)) = W := ⟨_, rfl⟩
  have hE : Ext w W := by rw [← hW]; exact ((Keep.refl _ _).alloc _).alloc _
  have hsz : W.heap.size = w.heap.size + 2 := by rw [← hW]; simp
  have hb : Blk W w.heap.size TCMP #[U8 2, p, .string key, a3, a4, a5, a6, a7, a8, a9, a10, a11] := by rw [← hW]; exact (Blk.new _ _ _).alloc _
  have hc : Blk W (w.heap.size + 1) TCMP #[U8 2, q, .string key, b3, b4, b5, b6, b7, b8, b9, b10, b11] := by
    have := Blk.new (w.alloc (.cells #[U8 2, p, .string key, a3, a4, a5, a6, a7, a8, a9, a10, a11] TCMP)) TCMP #[U8 2, q, .string key, b3, b4, b5, b6, b7, b8, b9, b10, b11]
    rw [World.size_alloc, hW] at this
    exact this
  have x0 := hb.cell 0
  have y0 := hc.cell 0
  have x1 := hb.cell 1
  have y1 := hc.cell 1
  have x2 := hb.cell 2
  have y2 := hc.cell 2
  have x3 := hb.cell 3
  have y3 := hc.cell 3
  have x4 := hb.cell 4
  have y4 := hc.cell 4
  have x5 := hb.cell 5
  have y5 := hc.cell 5
  have x6 := hb.cell 6
  have y6 := hc.cell 6
  have x7 := hb.cell 7
  have y7 := hc.cell 7
  have x8 := hb.cell 8
  have y8 := hc.cell 8
  have x9 := hb.cell 9
  have y9 := hc.cell 9
  have x10 := hb.cell 10
  have y10 := hc.cell 10
  have x11 := hb.cell 11
  have y11 := hc.cell 11
  simp at x0 y0 x1 y1 x2 y2 x3 y3 x4 y4 x5 y5 x6 y6 x7 y7 x8 y8 x9 y9 x10 y10 x11 y11
  have HB := hid hb
  have HC := hid hc
  have HE := hid hE
  clear hb hc hE hsz
  go_enter Tryd.func29, Tryd.ntmps29
  go_wp2_with fail
  refine (family_ok W 2 _ _ _ _ _ _ _ _ _ _ _).mono ?_
  rintro e W2 ⟨rfl, hE2⟩
  rw [show (famN (2 : UInt8).toNat : Int) = 5 from rfl]
  have hb2 := HB.out.keep hE2 id
  have hc2 := HC.out.keep hE2 id
  clear x0 y0 x1 y1 x2 y2 x3 y3 x4 y4 x5 y5 x6 y6 x7 y7 x8 y8 x9 y9 x10 y10 x11 y11
  have x0 := hb2.cell 0
  have y0 := hc2.cell 0
  have x1 := hb2.cell 1
  have y1 := hc2.cell 1
  have x2 := hb2.cell 2
  have y2 := hc2.cell 2
  have x3 := hb2.cell 3
  have y3 := hc2.cell 3
  have x4 := hb2.cell 4
  have y4 := hc2.cell 4
  have x5 := hb2.cell 5
  have y5 := hc2.cell 5
  have x6 := hb2.cell 6
  have y6 := hc2.cell 6
  have x7 := hb2.cell 7
  have y7 := hc2.cell 7
  have x8 := hb2.cell 8
  have y8 := hc2.cell 8
  have x9 := hb2.cell 9
  have y9 := hc2.cell 9
  have x10 := hb2.cell 10
  have y10 := hc2.cell 10
  have x11 := hb2.cell 11
  have y11 := hc2.cell 11
  simp at x0 y0 x1 y1 x2 y2 x3 y3 x4 y4 x5 y5 x6 y6 x7 y7 x8 y8 x9 y9 x10 y10 x11 y11
  have HB2 := hid hb2
  have HC2 := hid hc2
  have HE2 := hid (HE.out.ext hE2)
  clear hb2 hc2 hE2
  go_wp2_with fail
  refine (family_ok W2 2 _ _ _ _ _ _ _ _ _ _ _).mono ?_
  rintro e W3 ⟨rfl, hE3⟩
  rw [show (famN (2 : UInt8).toNat : Int) = 5 from rfl]
  have hb3 := HB2.out.keep hE3 id
  have hc3 := HC2.out.keep hE3 id
  clear x0 y0 x1 y1 x2 y2 x3 y3 x4 y4 x5 y5 x6 y6 x7 y7 x8 y8 x9 y9 x10 y10 x11 y11
  have x0 := hb3.cell 0
  have y0 := hc3.cell 0
  have x1 := hb3.cell 1
  have y1 := hc3.cell 1
  have x2 := hb3.cell 2
  have y2 := hc3.cell 2
  have x3 := hb3.cell 3
  have y3 := hc3.cell 3
  have x4 := hb3.cell 4
  have y4 := hc3.cell 4
  have x5 := hb3.cell 5
  have y5 := hc3.cell 5
  have x6 := hb3.cell 6
  have y6 := hc3.cell 6
  have x7 := hb3.cell 7
  have y7 := hc3.cell 7
  have x8 := hb3.cell 8
  have y8 := hc3.cell 8
  have x9 := hb3.cell 9
  have y9 := hc3.cell 9
  have x10 := hb3.cell 10
  have y10 := hc3.cell 10
  have x11 := hb3.cell 11
  have y11 := hc3.cell 11
  simp at x0 y0 x1 y1 x2 y2 x3 y3 x4 y4 x5 y5 x6 y6 x7 y7 x8 y8 x9 y9 x10 y10 x11 y11
  have HB3 := hid hb3
  have HC3 := hid hc3
  have HE3 := hid (HE2.out.ext hE3)
  clear hb3 hc3 hE3
  go_wp2_with fail
  refine (fields_ok W3 2 2 _ _ _ _ _ _ _ _ _ _ _ _ _ _ _ _ _ _ _ _ _ _ false).mono ?_
  rintro e W4 ⟨rfl, hE4⟩
  rw [show ((2 : UInt8).toNat == 2 && (false || (2 : UInt8).toNat == 3)) = false from rfl]
  go_wp2
  go_ret
  exact ⟨rfl, HE3.out.ext hE4⟩
set_option maxRecDepth 20000 in
set_option maxHeartbeats 3200000 in
theorem turn_put (w : World) (S S2 : BS) (u t : Value) (x y : Cp) (hx : CAt w S u x) (hy : CAt w S2 t y) (hp : x.path.length ≤ 1000) (hv : x.v.size ≤ 1000000) (hn : y.path <+: x.path) (hk : ¬ y.path.length < x.path.length) (hx2 : x.kind = 2) (hy2 : y.kind = 2) (hkey : y.key = x.key) :
    Calls Tryd.prog 13 #[u, t, .bool false] w (fun e w' => e = .returned (.slice none 0 0) ∧ Ext w w') := by
  obtain ⟨pv, lv, ov, rfl, h1, h2, h3⟩ := hx.cut
  obtain ⟨Ap, cp, rfl, _⟩ := h1.shape
  obtain ⟨Al, cl, rfl, _⟩ := h2.shape
  obtain ⟨Ao, co, rfl, _⟩ := h3.shape
  obtain ⟨qv, mv, nv, rfl, k1, k2, k3⟩ := hy.cut
  obtain ⟨Bp, dp, rfl, _⟩ := k1.shape
  obtain ⟨Bl, dl, rfl, _⟩ := k2.shape
  obtain ⟨Bo, do_, rfl, _⟩ := k3.shape
  obtain ⟨W, hW⟩ : ∃ W, (w.alloc (.cells (cpCells x (.slice Ap x.path.length cp) (.slice Al x.v.l.length cl) (.slice Ao x.v.o.length co)) TCMP)).alloc (.cells (cpCells y (.slice Bp y.path.length dp) (.slice Bl y.v.l.length dl) (.slice Bo y.v.o.length do_)) TCMP) = W := ⟨_, rfl⟩
  have hE : Ext w W := by rw [← hW]; exact ((Keep.refl _ _).alloc _).alloc _
  have hsz : W.heap.size = w.heap.size + 2 := by rw [← hW]; simp
  have hb : Blk W w.heap.size TCMP (cpCells x (.slice Ap x.path.length cp) (.slice Al x.v.l.length cl) (.slice Ao x.v.o.length co)) := by rw [← hW]; exact (Blk.new _ _ _).alloc _
  have hc : Blk W (w.heap.size + 1) TCMP (cpCells y (.slice Bp y.path.length dp) (.slice Bl y.v.l.length dl) (.slice Bo y.v.o.length do_)) := by
    have := Blk.new (w.alloc (.cells (cpCells x (.slice Ap x.path.length cp) (.slice Al x.v.l.length cl) (.slice Ao x.v.o.length co)) TCMP)) TCMP (cpCells y (.slice Bp y.path.length dp) (.slice Bl y.v.l.length dl) (.slice Bo y.v.o.length do_))
    rw [World.size_alloc, hW] at this
    exact this
  have HX := hid (show CAt W (fun k => k < w.heap.size) (.agg (cpCells x (.slice Ap x.path.length cp) (.slice Al x.v.l.length cl) (.slice Ao x.v.o.length co))) x from (CAt.ext ⟨_, _, _, rfl, h1, h2, h3⟩ hE).more fun k _ h => h.2)
  have HQ := hid ((k1.more (S' := fun k => k < w.heap.size) ESt.ok fun k _ h => h.2).ext ESt.ok hE)
  have HB := hid hb
  have HC := hid hc
  have HE := hid hE
  have HN := hid hn
  have a0 := hb.cell 0
  have a1 := hb.cell 1
  have a2 := hb.cell 2
  have a3 := hb.cell 3
  have a4 := hb.cell 4
  have a5 := hb.cell 5
  have a6 := hb.cell 6
  have a7 := hb.cell 7
  have a8 := hb.cell 8
  have a9 := hb.cell 9
  have a10 := hb.cell 10
  have a11 := hb.cell 11
  simp at a0 a1 a2 a3 a4 a5 a6 a7 a8 a9 a10 a11
  have HK := hid hk
  have HX2K := hid hx2
  have HY2K := hid hy2
  have HKEY := hid hkey
  clear h1 h2 h3 k1 k2 k3 hk hx2 hy2 hkey hE hb hc hx hy hn
  go_enter Tryd.func13, Tryd.ntmps13
  go_wp2_with fail
  refine (comp_copy W _ _ x HX.out hp hv).mono ?_
  rintro e X1 ⟨u', rfl, hu', hE1⟩
  obtain ⟨pv2, lv2, ov2, rfl, g1, g2, g3⟩ := hu'
  obtain ⟨Ap2, cp2, rfl, _⟩ := g1.shape
  obtain ⟨Al2, cl2, rfl, _⟩ := g2.shape
  obtain ⟨Ao2, co2, rfl, _⟩ := g3.shape
  have hs1 := hE1.size
  have hb := HB.out.keep hE1 id
  obtain ⟨X2, hX2⟩ : ∃ X2, ((((((((((((X1.setCell ⟨w.heap.size, 0, none⟩ (.int .u8 (x.kind.toNat : Int))).setCell ⟨w.heap.size, 1, none⟩ (.slice Ap2 x.path.length cp2)).setCell ⟨w.heap.size, 2, none⟩ (.string x.key)).setCell ⟨w.heap.size, 3, none⟩ (.int .i64 x.i)).setCell ⟨w.heap.size, 4, none⟩ (.int .i64 x.j)).setCell ⟨w.heap.size, 5, none⟩ (.int .i64 x.n)).setCell ⟨w.heap.size, 6, none⟩ (.int .u8 (x.v.kind.toNat : Int))).setCell ⟨w.heap.size, 7, none⟩ (.int .i64 x.v.n)).setCell ⟨w.heap.size, 8, none⟩ (.string x.v.s)).setCell ⟨w.heap.size, 9, none⟩ (.slice Al2 x.v.l.length cl2)).setCell ⟨w.heap.size, 10, none⟩ (.slice Ao2 x.v.o.length co2)).setCell ⟨w.heap.size, 11, none⟩ (.string x.s)) = X2 := ⟨_, rfl⟩
  have hk : Keep (· = w.heap.size) X1 X2 := by rw [← hX2]; exact ((((((((((((Keep.refl (· = w.heap.size) X1).set1 0 _).set1 1 _).set1 2 _).set1 3 _).set1 4 _).set1 5 _).set1 6 _).set1 7 _).set1 8 _).set1 9 _).set1 10 _).set1 11 _
  have hb2 : Blk X2 w.heap.size TCMP (cpCells x (.slice Ap2 x.path.length cp2) (.slice Al2 x.v.l.length cl2) (.slice Ao2 x.v.o.length co2)) := by rw [← hX2]; exact set12f hb rfl (.int .u8 (x.kind.toNat : Int)) (.slice Ap2 x.path.length cp2) (.string x.key) (.int .i64 x.i) (.int .i64 x.j) (.int .i64 x.n) (.int .u8 (x.v.kind.toNat : Int)) (.int .i64 x.v.n) (.string x.v.s) (.slice Al2 x.v.l.length cl2) (.slice Ao2 x.v.o.length co2) (.string x.s)
  have HG1 := hid (g1.keep ESt.ok hk fun k h e => by omega)
  have HG2 := hid (g2.keep EVal.ok hk fun k h e => by omega)
  have HG3 := hid (g3.keep EField.ok hk fun k h e => by omega)
  have HB2 := hid hb2
  have HC2 := hid ((HC.out.keep hE1 id).keep hk (by omega))
  have HQ2 := hid ((HQ.out.ext ESt.ok hE1).keep ESt.ok hk fun k h e => by omega)
  have HE2 := hid ((HE.out.ext hE1).trans hk fun k hk e => by omega)
  have HX2 := hid hX2
  have b0 := hb.cell 0
  have f0 := hb.frozen 0
  have b1 := hb.cell 1
  have f1 := hb.frozen 1
  have b2 := hb.cell 2
  have f2 := hb.frozen 2
  have b3 := hb.cell 3
  have f3 := hb.frozen 3
  have b4 := hb.cell 4
  have f4 := hb.frozen 4
  have b5 := hb.cell 5
  have f5 := hb.frozen 5
  have b6 := hb.cell 6
  have f6 := hb.frozen 6
  have b7 := hb.cell 7
  have f7 := hb.frozen 7
  have b8 := hb.cell 8
  have f8 := hb.frozen 8
  have b9 := hb.cell 9
  have f9 := hb.frozen 9
  have b10 := hb.cell 10
  have f10 := hb.frozen 10
  have b11 := hb.cell 11
  have f11 := hb.frozen 11
  simp at b0 b1 b2 b3 b4 b5 b6 b7 b8 b9 b10 b11
  have y1 := (HC.out.keep hE1 id).cell 1
  simp at y1
  clear hX2 hk hb2 hb g1 g2 g3 hE1 HB HC HQ HX a0 a1 a2 a3 a4 a5 a6 a7 a8 a9 a10 a11
  go_wp2_with fail
  rw [HX2.out]
  clear y1 b0 f0 b1 f1 b2 f2 b3 f3 b4 f4 b5 f5 b6 f6 b7 f7 b8 f8 b9 f9 b10 f10 b11 f11
  refine (begins_ok X2 _ _ _ _ _ _ HG1.out HQ2.out).mono ?_
  intro e X3 hbeg
  obtain ⟨rfl, hE3⟩ := hbeg.yes HN.out
  have HB3 := hid (HB2.out.keep hE3 id)
  have HG1' := hid (HG1.out.ext ESt.ok hE3)
  have HG2' := hid (HG2.out.ext EVal.ok hE3)
  have HG3' := hid (HG3.out.ext EField.ok hE3)
  have HE3 := hid (HE2.out.ext hE3)
  have hE3' := hE3
  clear hbeg hE3 HB2 HG1 HG2 HG3 HQ2 HE2 HX2
  have HC3 := hid (HC2.out.keep hE3' id)
  have b0 := HB3.out.cell 0
  have b1 := HB3.out.cell 1
  have b2 := HB3.out.cell 2
  have b3 := HB3.out.cell 3
  have b4 := HB3.out.cell 4
  have b5 := HB3.out.cell 5
  have b6 := HB3.out.cell 6
  have b7 := HB3.out.cell 7
  have b8 := HB3.out.cell 8
  have b9 := HB3.out.cell 9
  have b10 := HB3.out.cell 10
  have b11 := HB3.out.cell 11
  simp at b0 b1 b2 b3 b4 b5 b6 b7 b8 b9 b10 b11
  have hklX : ¬ ((y.path.length : Int) < x.path.length) := by have := HK.out; omega
  have hc3 := HC3.out
  have z0 := hc3.cell 0
  have z1 := hc3.cell 1
  have z2 := hc3.cell 2
  have z3 := hc3.cell 3
  have z4 := hc3.cell 4
  have z5 := hc3.cell 5
  have z6 := hc3.cell 6
  have z7 := hc3.cell 7
  have z8 := hc3.cell 8
  have z9 := hc3.cell 9
  have z10 := hc3.cell 10
  have z11 := hc3.cell 11
  simp at z0 z1 z2 z3 z4 z5 z6 z7 z8 z9 z10 z11
  rw [HY2K.out] at z0
  rw [HX2K.out] at b0
  rw [HKEY.out] at z2
  clear hc3
  go_wp2_with fail
  refine (beside_put X3 x.key _ _ _ _ _ _ _ _ _ _ _ _ _ _ _ _ _ _ _ _).mono ?_
  rintro e X4 ⟨rfl, hE4⟩
  have HE4 := hid (HE3.out.ext hE4)
  clear hE4 b0 b1 b2 b3 b4 b5 b6 b7 b8 b9 b10 b11 z0 z1 z2 z3 z4 z5 z6 z7 z8 z9 z10 z11
  go_wp2_with fail
  refine (own_nil X4).mono ?_
  rintro e X5 ⟨rfl, rfl⟩
  go_wp2
  go_ret
  exact ⟨rfl, HE4.out⟩
end Go.Proofs.YtioplgfopillnaaDoor
