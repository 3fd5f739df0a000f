/- TurnT, TurnP, LayRC: laid together. -/
import Derived.Test.YtioplgfopillnaaDoorAcB26
import Derived.Test.YtioplgfopillnaaDoorAcB23
import Derived.Test.YtioplgfopillnaaDoorAcB27
import Derived.Test.YtioplgfopillnaaDoorAcB22
import Derived.Shelf.Utf8.RuneCount
import Derived.Ground.NamesProg
import Derived.Test.YtioplgfopillnaaDoorProg
/- The reference's Turn, its parts: what a component works on; what goes through what another one works on. -/
set_option linter.unusedSimpArgs false
set_option linter.unusedVariables false
namespace Go.Proofs.YtioplgfopillnaaDoor
open Go.RowKit
set_option linter.unusedVariables false

set_option maxHeartbeats 3200000 in
theorem rfield7_ok (w : World) (k : UInt8) (p key i j n v0 v1 v2 v3 v4 s : Value) :
    Calls Tryd.prog 32 #[.agg #[U8 k, p, key, i, j, n, v0, v1, v2, v3, v4, s]] w fun e w' => e = .returned (.bool (famN k.toNat == 5)) ∧ Ext w w' := by
  have hE : Ext w (w.alloc (.cells #[U8 k, p, key, i, j, n, v0, v1, v2, v3, v4, s] TCMP)) := (Keep.refl _ _).alloc _
  have HE := hid hE
  clear hE
  obtain ⟨q, hq⟩ : ∃ q, k.toNat = q := ⟨_, rfl⟩
  have hc : q = 1 ∨ q = 2 ∨ q = 3 ∨ q = 4 ∨ q = 5 ∨ q = 6 ∨ q = 7 ∨ q = 8 ∨ q = 9 ∨ (q ≠ 1 ∧ q ≠ 2 ∧ q ≠ 3 ∧ q ≠ 4 ∧ q ≠ 5 ∧ q ≠ 6 ∧ q ≠ 7 ∧ q ≠ 8 ∧ q ≠ 9) := by omega
  rw [show U8 k = .int .u8 (q : Int) from by rw [← hq]] at *
  have hfam : famN k.toNat = famN q := by rw [hq]
  rw [hfam]
  clear hq hfam
  rcases hc with rfl | rfl | rfl | rfl | rfl | rfl | rfl | rfl | rfl | ⟨h1, h2, h3, h4, h5, h6, h7, h8, h9⟩
  case' inr.inr.inr.inr.inr.inr.inr.inr.inr =>
    have g2 : ((q : Int) == 2) = false := by simp; omega
    have g3 : ((q : Int) == 3) = false := by simp; omega
    have g4 : ((q : Int) == 4) = false := by simp; omega
    have g5 : ((q : Int) == 5) = false := by simp; omega
    have g6 : ((q : Int) == 6) = false := by simp; omega
    have g7 : ((q : Int) == 7) = false := by simp; omega
    have g8 : ((q : Int) == 8) = false := by simp; omega
    have g9 : ((q : Int) == 9) = false := by simp; omega
    have HF := hid (show famN q = 0 from by unfold famN; rw [if_neg h1, if_neg (by omega), if_neg (by omega), if_neg (by omega)])
    clear h1 h2 h3 h4 h5 h6 h7 h8 h9
  all_goals
    go_enter Tryd.func32, Tryd.ntmps32
    go_wp2
    go_ret
    first | exact ⟨rfl, HE.out⟩ | (rw [HF.out]; exact ⟨rfl, HE.out⟩)

set_option maxHeartbeats 3200000 in
theorem rlist7_ok (w : World) (k : UInt8) (p key i j n v0 v1 v2 v3 v4 s : Value) :
    Calls Tryd.prog 33 #[.agg #[U8 k, p, key, i, j, n, v0, v1, v2, v3, v4, s]] w fun e w' => e = .returned (.bool (famN k.toNat == 4)) ∧ Ext w w' := by
  have hE : Ext w (w.alloc (.cells #[U8 k, p, key, i, j, n, v0, v1, v2, v3, v4, s] TCMP)) := (Keep.refl _ _).alloc _
  have HE := hid hE
  clear hE
  obtain ⟨q, hq⟩ : ∃ q, k.toNat = q := ⟨_, rfl⟩
  have hc : q = 1 ∨ q = 2 ∨ q = 3 ∨ q = 4 ∨ q = 5 ∨ q = 6 ∨ q = 7 ∨ q = 8 ∨ q = 9 ∨ (q ≠ 1 ∧ q ≠ 2 ∧ q ≠ 3 ∧ q ≠ 4 ∧ q ≠ 5 ∧ q ≠ 6 ∧ q ≠ 7 ∧ q ≠ 8 ∧ q ≠ 9) := by omega
  rw [show U8 k = .int .u8 (q : Int) from by rw [← hq]] at *
  have hfam : famN k.toNat = famN q := by rw [hq]
  rw [hfam]
  clear hq hfam
  rcases hc with rfl | rfl | rfl | rfl | rfl | rfl | rfl | rfl | rfl | ⟨h1, h2, h3, h4, h5, h6, h7, h8, h9⟩
  case' inr.inr.inr.inr.inr.inr.inr.inr.inr =>
    have g2 : ((q : Int) == 2) = false := by simp; omega
    have g3 : ((q : Int) == 3) = false := by simp; omega
    have g4 : ((q : Int) == 4) = false := by simp; omega
    have g5 : ((q : Int) == 5) = false := by simp; omega
    have g6 : ((q : Int) == 6) = false := by simp; omega
    have g7 : ((q : Int) == 7) = false := by simp; omega
    have g8 : ((q : Int) == 8) = false := by simp; omega
    have g9 : ((q : Int) == 9) = false := by simp; omega
    have HF := hid (show famN q = 0 from by unfold famN; rw [if_neg h1, if_neg (by omega), if_neg (by omega), if_neg (by omega)])
    clear h1 h2 h3 h4 h5 h6 h7 h8 h9
  all_goals
    go_enter Tryd.func33, Tryd.ntmps33
    go_wp2
    go_ret
    first | exact ⟨rfl, HE.out⟩ | (rw [HF.out]; exact ⟨rfl, HE.out⟩)

set_option maxHeartbeats 3200000 in
theorem rtext7_ok (w : World) (k : UInt8) (p key i j n v0 v1 v2 v3 v4 s : Value) :
    Calls Tryd.prog 35 #[.agg #[U8 k, p, key, i, j, n, v0, v1, v2, v3, v4, s]] w fun e w' => e = .returned (.bool (famN k.toNat == 3)) ∧ Ext w w' := by
  have hE : Ext w (w.alloc (.cells #[U8 k, p, key, i, j, n, v0, v1, v2, v3, v4, s] TCMP)) := (Keep.refl _ _).alloc _
  have HE := hid hE
  clear hE
  obtain ⟨q, hq⟩ : ∃ q, k.toNat = q := ⟨_, rfl⟩
  have hc : q = 1 ∨ q = 2 ∨ q = 3 ∨ q = 4 ∨ q = 5 ∨ q = 6 ∨ q = 7 ∨ q = 8 ∨ q = 9 ∨ (q ≠ 1 ∧ q ≠ 2 ∧ q ≠ 3 ∧ q ≠ 4 ∧ q ≠ 5 ∧ q ≠ 6 ∧ q ≠ 7 ∧ q ≠ 8 ∧ q ≠ 9) := by omega
  rw [show U8 k = .int .u8 (q : Int) from by rw [← hq]] at *
  have hfam : famN k.toNat = famN q := by rw [hq]
  rw [hfam]
  clear hq hfam
  rcases hc with rfl | rfl | rfl | rfl | rfl | rfl | rfl | rfl | rfl | ⟨h1, h2, h3, h4, h5, h6, h7, h8, h9⟩
  case' inr.inr.inr.inr.inr.inr.inr.inr.inr =>
    have g2 : ((q : Int) == 2) = false := by simp; omega
    have g3 : ((q : Int) == 3) = false := by simp; omega
    have g4 : ((q : Int) == 4) = false := by simp; omega
    have g5 : ((q : Int) == 5) = false := by simp; omega
    have g6 : ((q : Int) == 6) = false := by simp; omega
    have g7 : ((q : Int) == 7) = false := by simp; omega
    have g8 : ((q : Int) == 8) = false := by simp; omega
    have g9 : ((q : Int) == 9) = false := by simp; omega
    have HF := hid (show famN q = 0 from by unfold famN; rw [if_neg h1, if_neg (by omega), if_neg (by omega), if_neg (by omega)])
    clear h1 h2 h3 h4 h5 h6 h7 h8 h9
  all_goals
    go_enter Tryd.func35, Tryd.ntmps35
    go_wp2
    go_ret
    first | exact ⟨rfl, HE.out⟩ | (rw [HF.out]; exact ⟨rfl, HE.out⟩)

/-- What is left of x, which goes by its step s through what y works on: x's own path is written. -/
def RBelIs (w : World) (base g cap k : Nat) (x y : Cp) (s : St) (lv ov : Value) (e : Ending) (w' : World) : Prop :=
  ((thrL s y).2 = false ∧ e = .returned (.slice none 0 0) ∧ Ext w w') ∨
  ((thrL s y).2 = true ∧ ∃ b, e = .returned (.slice (some ⟨b, 0, none⟩) 1 1) ∧ w.heap.size ≤ b ∧ Blk w' b TCMP (cpCells x (.slice (some ⟨g, 0, none⟩) x.path.length cap) lv ov) ∧
    Own ESt w' base TSTEP (fun _ => False) (.slice (some ⟨g, 0, none⟩) x.path.length cap) (x.path.set k { s with i := (thrL s y).1 }) ∧ Keep (· = g) w w')
theorem set_selfI {xs : List St} {k : Nat} {s : St} (hk : k < xs.length) (hs : xs[k] = s) : xs.set k { s with i := s.i } = xs := by
  subst hs
  exact List.set_getElem_self hk
theorem rbel_one {w V : World} {base g cap k : Nat} {x y : Cp} {s : St} {lv ov : Value} (ht : thrL s y = (s.i, true)) (hE : Ext w V) (ho : Own ESt V base TSTEP (fun _ => False) (.slice (some ⟨g, 0, none⟩) x.path.length cap) x.path) (hk : k < x.path.length) (hs : x.path[k] = s) :
    RBelIs w base g cap k x y s lv ov (.returned (.slice (some ⟨V.heap.size, 0, none⟩) 1 1)) (V.alloc (.cells (cpCells x (.slice (some ⟨g, 0, none⟩) x.path.length cap) lv ov) TCMP)) := by
  have hE2 := (Keep.refl (fun _ => False) V).alloc (.cells (cpCells x (.slice (some ⟨g, 0, none⟩) x.path.length cap) lv ov) TCMP)
  refine .inr ⟨by rw [ht], _, rfl, hE.size, Blk.new _ _ _, ?_, (hE.ext hE2).mono fun _ _ h => h.elim⟩
  rw [ht, set_selfI hk hs]
  exact ho.ext ESt.ok hE2
theorem rbel_put {w V : World} {base g cap k b : Nat} {x y : Cp} {s : St} {lv ov : Value} {i : Int} (ht : thrL s y = (i, true)) (hE : Keep (· = g) w V) (ho : Own ESt V base TSTEP (fun _ => False) (.slice (some ⟨g, 0, none⟩) x.path.length cap) (x.path.set k { s with i := i })) (hb : b = V.heap.size) :
    RBelIs w base g cap k x y s lv ov (.returned (.slice (some ⟨b, 0, none⟩) 1 1)) (V.alloc (.cells (cpCells x (.slice (some ⟨g, 0, none⟩) x.path.length cap) lv ov) TCMP)) := by
  subst hb
  have hE2 := (Keep.refl (fun _ => False) V).alloc (.cells (cpCells x (.slice (some ⟨g, 0, none⟩) x.path.length cap) lv ov) TCMP)
  refine .inr ⟨by rw [ht], _, rfl, hE.size, Blk.new _ _ _, ?_, hE.trans hE2 fun _ _ h => h.elim⟩
  rw [ht]
  exact ho.ext ESt.ok hE2
set_option maxRecDepth 20000 in
set_option maxHeartbeats 6400000 in
theorem rbelow_ok (w : World) (base g cap k : Nat) (S2 : BS) (t : Value) (x y : Cp) (s : St) (Al : Option Addr) (cl : Nat) (Ao : Option Addr) (co : Nat)
    (ho : Own ESt w base TSTEP (fun _ => False) (.slice (some ⟨g, 0, none⟩) x.path.length cap) x.path) (hy : CAt w S2 t y) (hk : k < x.path.length) (hkk : y.path.length = k) (hs : x.path[k] = s) (hsi : Sm s.i) (hyi : Sm y.i) (hyj : Sm y.j) (hm : x.path.length ≤ 1000) :
    Calls Tryd.prog 31 #[.agg (cpCells x (.slice (some ⟨g, 0, none⟩) x.path.length cap) (.slice Al x.v.l.length cl) (.slice Ao x.v.o.length co)), t] w (RBelIs w base g cap k x y s (.slice Al x.v.l.length cl) (.slice Ao x.v.o.length co)) := by
  subst hkk
  obtain ⟨qv, mv, nv, rfl, k1, k2, k3⟩ := hy
  obtain ⟨Bp, dp, rfl, _⟩ := k1.shape
  obtain ⟨Bl, dl, rfl, _⟩ := k2.shape
  obtain ⟨Bo, do_, rfl, _⟩ := k3.shape
  obtain ⟨hlc, hcm, hg⟩ : x.path.length ≤ cap ∧ cap ≤ maxLen ∧ g < w.heap.size := by
    obtain ⟨cur, _, _, hblk, h1, h2, _⟩ := own_cells2 ho
    exact ⟨h1, h2, hblk.lt⟩
  unfold maxLen at hcm
  obtain ⟨W, hW⟩ : ∃ W, (w.alloc (.cells (cpCells x (.slice (some ⟨g, 0, none⟩) x.path.length cap) (.slice Al x.v.l.length cl) (.slice Ao x.v.o.length co)) TCMP)).alloc (.cells (cpCells y (.slice Bp y.path.length dp) (.slice Bl y.v.l.length dl) (.slice Bo y.v.o.length do_)) TCMP) = W := ⟨_, rfl⟩
  have hE : Ext w W := by rw [← hW]; exact ((Keep.refl _ _).alloc _).alloc _
  have hsz : W.heap.size = w.heap.size + 2 := by rw [← hW]; simp
  have hb : Blk W w.heap.size TCMP (cpCells x (.slice (some ⟨g, 0, none⟩) x.path.length cap) (.slice Al x.v.l.length cl) (.slice Ao x.v.o.length co)) := by rw [← hW]; exact (Blk.new _ _ _).alloc _
  have hc : Blk W (w.heap.size + 1) TCMP (cpCells y (.slice Bp y.path.length dp) (.slice Bl y.v.l.length dl) (.slice Bo y.v.o.length do_)) := by
    have := Blk.new (w.alloc (.cells (cpCells x (.slice (some ⟨g, 0, none⟩) x.path.length cap) (.slice Al x.v.l.length cl) (.slice Ao x.v.o.length co)) TCMP)) TCMP (cpCells y (.slice Bp y.path.length dp) (.slice Bl y.v.l.length dl) (.slice Bo y.v.o.length do_))
    rw [World.size_alloc, hW] at this
    exact this
  have hoW := ho.ext ESt.ok hE
  obtain ⟨s0, s1, s2, s3⟩ := stp_at hoW hk hs
  have a0 := hb.cell 0
  have a1 := hb.cell 1
  have a2 := hb.cell 2
  have a3 := hb.cell 3
  have a4 := hb.cell 4
  have a5 := hb.cell 5
  have a6 := hb.cell 6
  have a7 := hb.cell 7
  have a8 := hb.cell 8
  have a9 := hb.cell 9
  have a10 := hb.cell 10
  have a11 := hb.cell 11
  simp at a0 a1 a2 a3 a4 a5 a6 a7 a8 a9 a10 a11
  have b0 := hc.cell 0
  have b1 := hc.cell 1
  have b2 := hc.cell 2
  have b3 := hc.cell 3
  have b4 := hc.cell 4
  have b5 := hc.cell 5
  have b6 := hc.cell 6
  have b7 := hc.cell 7
  have b8 := hc.cell 8
  have b9 := hc.cell 9
  have b10 := hc.cell 10
  have b11 := hc.cell 11
  simp at b0 b1 b2 b3 b4 b5 b6 b7 b8 b9 b10 b11
  have HO := hid hoW
  have HB := hid hb
  have HC := hid hc
  have HE := hid hE
  have HSZ := hid hsz
  have HK := hid hk
  have HS := hid (show x.path[y.path.length]? = some s from by rw [List.getElem?_eq_getElem hk, hs])
  have HSI := hid hsi
  have HYI := hid hyi
  have HYJ := hid hyj
  have HG := hid hg
  have hkX : (y.path.length : Int) < x.path.length := by omega
  clear k1 k2 k3 ho hoW hb hc hE hsz hk hs hsi hyi hyj hg
  go_enter Tryd.func31, Tryd.ntmps31
  have c0 := fun o : Obj => ((show Ext W (W.alloc o) from (Keep.refl _ _).alloc _).cell (lt_of_cell b0) id).trans b0
  have c1 := fun o : Obj => ((show Ext W (W.alloc o) from (Keep.refl _ _).alloc _).cell (lt_of_cell b1) id).trans b1
  have c2 := fun o : Obj => ((show Ext W (W.alloc o) from (Keep.refl _ _).alloc _).cell (lt_of_cell b2) id).trans b2
  have c3 := fun o : Obj => ((show Ext W (W.alloc o) from (Keep.refl _ _).alloc _).cell (lt_of_cell b3) id).trans b3
  have c4 := fun o : Obj => ((show Ext W (W.alloc o) from (Keep.refl _ _).alloc _).cell (lt_of_cell b4) id).trans b4
  have c5 := fun o : Obj => ((show Ext W (W.alloc o) from (Keep.refl _ _).alloc _).cell (lt_of_cell b5) id).trans b5
  have c6 := fun o : Obj => ((show Ext W (W.alloc o) from (Keep.refl _ _).alloc _).cell (lt_of_cell b6) id).trans b6
  have c7 := fun o : Obj => ((show Ext W (W.alloc o) from (Keep.refl _ _).alloc _).cell (lt_of_cell b7) id).trans b7
  have c8 := fun o : Obj => ((show Ext W (W.alloc o) from (Keep.refl _ _).alloc _).cell (lt_of_cell b8) id).trans b8
  have c9 := fun o : Obj => ((show Ext W (W.alloc o) from (Keep.refl _ _).alloc _).cell (lt_of_cell b9) id).trans b9
  have c10 := fun o : Obj => ((show Ext W (W.alloc o) from (Keep.refl _ _).alloc _).cell (lt_of_cell b10) id).trans b10
  have c11 := fun o : Obj => ((show Ext W (W.alloc o) from (Keep.refl _ _).alloc _).cell (lt_of_cell b11) id).trans b11
  clear b0 b2 b3 b4 b5 b6 b7 b8 b9 b10 b11
  go_wp2_with fail
  obtain ⟨V, hV⟩ : ∃ V, W.alloc (.cells #[.bool s.list, .int .i64 s.i, .string s.key] TSTEP) = V := ⟨_, rfl⟩
  have hEV : Ext W V := by rw [← hV]; exact (Keep.refl _ _).alloc _
  have HBV := hid (HB.out.keep hEV id)
  have HCV := hid (HC.out.keep hEV id)
  have HOV := hid (HO.out.ext ESt.ok hEV)
  have HTV := hid (show Blk V W.heap.size TSTEP #[.bool s.list, .int .i64 s.i, .string s.key] from by rw [← hV]; exact Blk.new _ _ _)
  have HEV := hid (HE.out.ext hEV)
  have hcall := rfield7_ok V y.kind (.slice Bp y.path.length dp) (.string y.key) (.int .i64 y.i) (.int .i64 y.j) (.int .i64 y.n) (U8 y.v.kind) (.int .i64 y.v.n) (.string y.v.s) (.slice Bl y.v.l.length dl) (.slice Bo y.v.o.length do_) (.string y.s)
  rw [← hV] at hcall
  refine hcall.mono ?_
  rw [hV]
  rintro e V1 ⟨rfl, hE1⟩
  obtain ⟨f, hf⟩ : ∃ f, famN y.kind.toNat = f := ⟨_, rfl⟩
  have HF := hid hf
  rw [hf]
  have HBV1 := hid (HBV.out.keep hE1 id)
  have HCV1 := hid (HCV.out.keep hE1 id)
  have HOV1 := hid (HOV.out.ext ESt.ok hE1)
  have HTV1 := hid (HTV.out.keep hE1 id)
  have HEV1 := hid (HEV.out.ext hE1)
  have hsk : x.path[y.path.length]'HK.out = s := (List.getElem?_eq_some_iff.1 HS.out).2
  have HSG := hid hsk
  clear hcall hV hEV hE1 hf hW HB HC HO HE HBV HCV HOV HTV HEV a0 a1 a2 a3 a4 a5 a6 a7 a8 a9 a10 a11 b1 c0 c1 c2 c3 c4 c5 c6 c7 c8 c9 c10 c11 s0 s1 s2 s3
  have a0 := HBV1.out.cell 0
  have b0 := HCV1.out.cell 0
  have a1 := HBV1.out.cell 1
  have b1 := HCV1.out.cell 1
  have a2 := HBV1.out.cell 2
  have b2 := HCV1.out.cell 2
  have a3 := HBV1.out.cell 3
  have b3 := HCV1.out.cell 3
  have a4 := HBV1.out.cell 4
  have b4 := HCV1.out.cell 4
  have a5 := HBV1.out.cell 5
  have b5 := HCV1.out.cell 5
  have a6 := HBV1.out.cell 6
  have b6 := HCV1.out.cell 6
  have a7 := HBV1.out.cell 7
  have b7 := HCV1.out.cell 7
  have a8 := HBV1.out.cell 8
  have b8 := HCV1.out.cell 8
  have a9 := HBV1.out.cell 9
  have b9 := HCV1.out.cell 9
  have a10 := HBV1.out.cell 10
  have b10 := HCV1.out.cell 10
  have a11 := HBV1.out.cell 11
  have b11 := HCV1.out.cell 11
  simp at a0 b0 a1 b1 a2 b2 a3 b3 a4 b4 a5 b5 a6 b6 a7 b7 a8 b8 a9 b9 a10 b10 a11 b11
  have t0 := HTV1.out.cell 0
  have t1 := HTV1.out.cell 1
  have t2 := HTV1.out.cell 2
  simp at t0 t1 t2
  obtain ⟨s0, s1, s2, s3⟩ := stp_at HOV1.out HK.out hsk
  clear hsk
  by_cases h5 : f = 5
  · subst h5
    have q5 : ((5 : Nat) == 5) = true := rfl
    have q4 : ((5 : Nat) == 4) = false := rfl
    cases hl : s.list with
    | false =>
      rw [hl] at t0
      have ht : thrL s y = (s.i, s.key.toList != y.key.toList) := by unfold thrL; rw [if_pos ⟨HF.out, hl⟩]
      have HTH := hid ht
      clear ht
      cases hkey : (s.key.toList == y.key.toList) with
      | true =>
        have HKEY := hid hkey
        go_wp2
        go_ret
        exact .inl ⟨by rw [HTH.out]; show (s.key.toList != y.key.toList) = false; unfold bne; rw [HKEY.out]; rfl, rfl, HEV1.out⟩
      | false =>
        have HKEY := hid hkey
        have HL := hid hl
        go_wp2_with fail
        refine (rlist7_ok V1 y.kind _ _ _ _ _ _ _ _ _ _ _).mono ?_
        rintro e V2 ⟨rfl, hE2⟩
        rw [HF.out]
        have HBV2 := hid (HBV1.out.keep hE2 id)
        have HCV2 := hid (HCV1.out.keep hE2 id)
        have HOV2 := hid (HOV1.out.ext ESt.ok hE2)
        have HTV2 := hid (HTV1.out.keep hE2 id)
        have HEV2 := hid (HEV1.out.ext hE2)
        clear hE2 HBV1 HCV1 HOV1 HTV1 HEV1
        clear a0 a1 a2 a3 a4 a5 a6 a7 a8 a9 a10 a11 b0 b1 b2 b3 b4 b5 b6 b7 b8 b9 b10 b11 t0 t1 t2 s0 s1 s2 s3
        have a0 := HBV2.out.cell 0
        have b0 := HCV2.out.cell 0
        have a1 := HBV2.out.cell 1
        have b1 := HCV2.out.cell 1
        have a2 := HBV2.out.cell 2
        have b2 := HCV2.out.cell 2
        have a3 := HBV2.out.cell 3
        have b3 := HCV2.out.cell 3
        have a4 := HBV2.out.cell 4
        have b4 := HCV2.out.cell 4
        have a5 := HBV2.out.cell 5
        have b5 := HCV2.out.cell 5
        have a6 := HBV2.out.cell 6
        have b6 := HCV2.out.cell 6
        have a7 := HBV2.out.cell 7
        have b7 := HCV2.out.cell 7
        have a8 := HBV2.out.cell 8
        have b8 := HCV2.out.cell 8
        have a9 := HBV2.out.cell 9
        have b9 := HCV2.out.cell 9
        have a10 := HBV2.out.cell 10
        have b10 := HCV2.out.cell 10
        have a11 := HBV2.out.cell 11
        have b11 := HCV2.out.cell 11
        simp at a0 b0 a1 b1 a2 b2 a3 b3 a4 b4 a5 b5 a6 b6 a7 b7 a8 b8 a9 b9 a10 b10 a11 b11
        have t0 := HTV2.out.cell 0
        have t1 := HTV2.out.cell 1
        have t2 := HTV2.out.cell 2
        simp at t0 t1 t2
        obtain ⟨s0, s1, s2, s3⟩ := stp_at HOV2.out HK.out HSG.out
        rw [HL.out] at t0
        go_wp2
        go_ret
        exact rbel_one (by rw [HTH.out]; unfold bne; rw [HKEY.out]; rfl) HEV2.out HOV2.out HK.out HSG.out
    | true =>
      rw [hl] at t0
      have HL := hid hl
      have HTH := hid (show thrL s y = (s.i, true) from by unfold thrL; rw [if_neg (by rw [hl]; simp), if_neg (by rw [HF.out]; simp)])
      go_wp2_with fail
      refine (rlist7_ok V1 y.kind _ _ _ _ _ _ _ _ _ _ _).mono ?_
      rintro e V2 ⟨rfl, hE2⟩
      rw [HF.out]
      have HBV2 := hid (HBV1.out.keep hE2 id)
      have HCV2 := hid (HCV1.out.keep hE2 id)
      have HOV2 := hid (HOV1.out.ext ESt.ok hE2)
      have HTV2 := hid (HTV1.out.keep hE2 id)
      have HEV2 := hid (HEV1.out.ext hE2)
      clear hE2 HBV1 HCV1 HOV1 HTV1 HEV1
      clear a0 a1 a2 a3 a4 a5 a6 a7 a8 a9 a10 a11 b0 b1 b2 b3 b4 b5 b6 b7 b8 b9 b10 b11 t0 t1 t2 s0 s1 s2 s3
      have a0 := HBV2.out.cell 0
      have b0 := HCV2.out.cell 0
      have a1 := HBV2.out.cell 1
      have b1 := HCV2.out.cell 1
      have a2 := HBV2.out.cell 2
      have b2 := HCV2.out.cell 2
      have a3 := HBV2.out.cell 3
      have b3 := HCV2.out.cell 3
      have a4 := HBV2.out.cell 4
      have b4 := HCV2.out.cell 4
      have a5 := HBV2.out.cell 5
      have b5 := HCV2.out.cell 5
      have a6 := HBV2.out.cell 6
      have b6 := HCV2.out.cell 6
      have a7 := HBV2.out.cell 7
      have b7 := HCV2.out.cell 7
      have a8 := HBV2.out.cell 8
      have b8 := HCV2.out.cell 8
      have a9 := HBV2.out.cell 9
      have b9 := HCV2.out.cell 9
      have a10 := HBV2.out.cell 10
      have b10 := HCV2.out.cell 10
      have a11 := HBV2.out.cell 11
      have b11 := HCV2.out.cell 11
      simp at a0 b0 a1 b1 a2 b2 a3 b3 a4 b4 a5 b5 a6 b6 a7 b7 a8 b8 a9 b9 a10 b10 a11 b11
      have t0 := HTV2.out.cell 0
      have t1 := HTV2.out.cell 1
      have t2 := HTV2.out.cell 2
      simp at t0 t1 t2
      obtain ⟨s0, s1, s2, s3⟩ := stp_at HOV2.out HK.out HSG.out
      rw [HL.out] at t0
      go_wp2
      go_ret
      exact rbel_one (HTH.out) HEV2.out HOV2.out HK.out HSG.out
  · have q5 : (f == 5) = false := by simpa using h5
    have H5 := hid h5
    clear h5
    by_cases h4 : f = 4
    · subst h4
      have q4 : ((4 : Nat) == 4) = true := rfl
      cases hl : s.list with
      | false =>
        rw [hl] at t0
        have HL := hid hl
        have HTH := hid (show thrL s y = (s.i, true) from by unfold thrL; rw [if_neg (by rw [HF.out]; simp), if_neg (by rw [hl]; simp)])
        go_wp2_with fail
        refine (rlist7_ok V1 y.kind _ _ _ _ _ _ _ _ _ _ _).mono ?_
        rintro e V2 ⟨rfl, hE2⟩
        rw [HF.out]
        have HBV2 := hid (HBV1.out.keep hE2 id)
        have HCV2 := hid (HCV1.out.keep hE2 id)
        have HOV2 := hid (HOV1.out.ext ESt.ok hE2)
        have HTV2 := hid (HTV1.out.keep hE2 id)
        have HEV2 := hid (HEV1.out.ext hE2)
        clear hE2 HBV1 HCV1 HOV1 HTV1 HEV1
        clear a0 a1 a2 a3 a4 a5 a6 a7 a8 a9 a10 a11 b0 b1 b2 b3 b4 b5 b6 b7 b8 b9 b10 b11 t0 t1 t2 s0 s1 s2 s3
        have a0 := HBV2.out.cell 0
        have b0 := HCV2.out.cell 0
        have a1 := HBV2.out.cell 1
        have b1 := HCV2.out.cell 1
        have a2 := HBV2.out.cell 2
        have b2 := HCV2.out.cell 2
        have a3 := HBV2.out.cell 3
        have b3 := HCV2.out.cell 3
        have a4 := HBV2.out.cell 4
        have b4 := HCV2.out.cell 4
        have a5 := HBV2.out.cell 5
        have b5 := HCV2.out.cell 5
        have a6 := HBV2.out.cell 6
        have b6 := HCV2.out.cell 6
        have a7 := HBV2.out.cell 7
        have b7 := HCV2.out.cell 7
        have a8 := HBV2.out.cell 8
        have b8 := HCV2.out.cell 8
        have a9 := HBV2.out.cell 9
        have b9 := HCV2.out.cell 9
        have a10 := HBV2.out.cell 10
        have b10 := HCV2.out.cell 10
        have a11 := HBV2.out.cell 11
        have b11 := HCV2.out.cell 11
        simp at a0 b0 a1 b1 a2 b2 a3 b3 a4 b4 a5 b5 a6 b6 a7 b7 a8 b8 a9 b9 a10 b10 a11 b11
        have t0 := HTV2.out.cell 0
        have t1 := HTV2.out.cell 1
        have t2 := HTV2.out.cell 2
        simp at t0 t1 t2
        obtain ⟨s0, s1, s2, s3⟩ := stp_at HOV2.out HK.out HSG.out
        rw [HL.out] at t0
        go_wp2
        go_ret
        exact rbel_one (HTH.out) HEV2.out HOV2.out HK.out HSG.out
      | true =>
        rw [hl] at t0
        have HL := hid hl
        obtain ⟨r, hr⟩ : ∃ r, atL y.kind y.i y.j s.i = r := ⟨_, rfl⟩
        obtain ⟨r1, r2⟩ := r
        have HTH := hid (show thrL s y = (r1, r2) from by unfold thrL; rw [if_neg (by rw [HF.out]; simp), if_pos ⟨HF.out, hl⟩, hr])
        have HCALL := hid (fun w' => rat_any y.kind (.slice Bp y.path.length dp) (.string y.key) (.int .i64 y.n) (U8 y.v.kind) (.int .i64 y.v.n) (.string y.v.s) (.slice Bl y.v.l.length dl) (.slice Bo y.v.o.length do_) (.string y.s) y.i y.j s.i w' HSI.out HYI.out HYJ.out)
        rw [hr] at HCALL
        clear hr hl
        go_wp2_with fail
        refine (rlist7_ok V1 y.kind _ _ _ _ _ _ _ _ _ _ _).mono ?_
        rintro e V2 ⟨rfl, hE2⟩
        rw [HF.out]
        have HBV2 := hid (HBV1.out.keep hE2 id)
        have HCV2 := hid (HCV1.out.keep hE2 id)
        have HOV2 := hid (HOV1.out.ext ESt.ok hE2)
        have HTV2 := hid (HTV1.out.keep hE2 id)
        have HEV2 := hid (HEV1.out.ext hE2)
        clear hE2 HBV1 HCV1 HOV1 HTV1 HEV1
        clear a0 a1 a2 a3 a4 a5 a6 a7 a8 a9 a10 a11 b0 b1 b2 b3 b4 b5 b6 b7 b8 b9 b10 b11 t0 t1 t2 s0 s1 s2 s3
        have a0 := HBV2.out.cell 0
        have b0 := HCV2.out.cell 0
        have a1 := HBV2.out.cell 1
        have b1 := HCV2.out.cell 1
        have a2 := HBV2.out.cell 2
        have b2 := HCV2.out.cell 2
        have a3 := HBV2.out.cell 3
        have b3 := HCV2.out.cell 3
        have a4 := HBV2.out.cell 4
        have b4 := HCV2.out.cell 4
        have a5 := HBV2.out.cell 5
        have b5 := HCV2.out.cell 5
        have a6 := HBV2.out.cell 6
        have b6 := HCV2.out.cell 6
        have a7 := HBV2.out.cell 7
        have b7 := HCV2.out.cell 7
        have a8 := HBV2.out.cell 8
        have b8 := HCV2.out.cell 8
        have a9 := HBV2.out.cell 9
        have b9 := HCV2.out.cell 9
        have a10 := HBV2.out.cell 10
        have b10 := HCV2.out.cell 10
        have a11 := HBV2.out.cell 11
        have b11 := HCV2.out.cell 11
        simp at a0 b0 a1 b1 a2 b2 a3 b3 a4 b4 a5 b5 a6 b6 a7 b7 a8 b8 a9 b9 a10 b10 a11 b11
        have t0 := HTV2.out.cell 0
        have t1 := HTV2.out.cell 1
        have t2 := HTV2.out.cell 2
        simp at t0 t1 t2
        obtain ⟨s0, s1, s2, s3⟩ := stp_at HOV2.out HK.out HSG.out
        rw [HL.out] at t0
        go_wp2_with fail
        refine (HCALL.out V2).mono ?_
        rintro e V3 ⟨rfl, hE3⟩
        have HBV3 := hid (HBV2.out.keep hE3 id)
        have HOV3 := hid (HOV2.out.ext ESt.ok hE3)
        have HEV3 := hid (HEV2.out.ext hE3)
        clear hE3 HBV2 HCV2 HOV2 HTV2 HEV2 a0 a1 a2 a3 a4 a5 a6 a7 a8 a9 a10 a11 b0 b1 b2 b3 b4 b5 b6 b7 b8 b9 b10 b11 t0 t1 t2 s0 s1 s2 s3 HCALL
        have a0 := HBV3.out.cell 0
        have a1 := HBV3.out.cell 1
        have a2 := HBV3.out.cell 2
        have a3 := HBV3.out.cell 3
        have a4 := HBV3.out.cell 4
        have a5 := HBV3.out.cell 5
        have a6 := HBV3.out.cell 6
        have a7 := HBV3.out.cell 7
        have a8 := HBV3.out.cell 8
        have a9 := HBV3.out.cell 9
        have a10 := HBV3.out.cell 10
        have a11 := HBV3.out.cell 11
        simp at a0 a1 a2 a3 a4 a5 a6 a7 a8 a9 a10 a11
        obtain ⟨s0, s1, s2, s3⟩ := stp_at HOV3.out HK.out HSG.out
        cases r2 with
        | false =>
          go_wp2
          go_ret
          exact .inl ⟨by rw [HTH.out], rfl, HEV3.out⟩
        | true =>
          have hng : ¬ g = w.heap.size := by have := HG.out; omega
          have hng2 : ¬ w.heap.size = g := by have := HG.out; omega
          have HN1 := hid hng
          have hOS := stp_set HOV3.out HK.out HSG.out r1
          have hKS : Keep (· = g) w (V3.setCell ⟨g, y.path.length * 3 + 1, none⟩ (.int .i64 r1)) := (HEV3.out.mono fun _ _ h => h.elim).set1 _ _
          have HOS := hid hOS
          have HKS := hid hKS
          clear hOS hKS
          go_wp2
          go_ret
          exact rbel_put HTH.out HKS.out HOS.out (by simp)
    · have q4 : (f == 4) = false := by simpa using h4
      have HTH := hid (show thrL s y = (s.i, true) from by unfold thrL; rw [if_neg (fun h => H5.out (HF.out.symm.trans h.1)), if_neg (fun h => h4 (HF.out.symm.trans h.1))])
      clear h4
      go_wp2_with fail
      refine (rlist7_ok V1 y.kind _ _ _ _ _ _ _ _ _ _ _).mono ?_
      rintro e V2 ⟨rfl, hE2⟩
      rw [HF.out]
      have HBV2 := hid (HBV1.out.keep hE2 id)
      have HCV2 := hid (HCV1.out.keep hE2 id)
      have HOV2 := hid (HOV1.out.ext ESt.ok hE2)
      have HTV2 := hid (HTV1.out.keep hE2 id)
      have HEV2 := hid (HEV1.out.ext hE2)
      clear hE2 HBV1 HCV1 HOV1 HTV1 HEV1
      clear a0 a1 a2 a3 a4 a5 a6 a7 a8 a9 a10 a11 b0 b1 b2 b3 b4 b5 b6 b7 b8 b9 b10 b11 t0 t1 t2 s0 s1 s2 s3
      have a0 := HBV2.out.cell 0
      have b0 := HCV2.out.cell 0
      have a1 := HBV2.out.cell 1
      have b1 := HCV2.out.cell 1
      have a2 := HBV2.out.cell 2
      have b2 := HCV2.out.cell 2
      have a3 := HBV2.out.cell 3
      have b3 := HCV2.out.cell 3
      have a4 := HBV2.out.cell 4
      have b4 := HCV2.out.cell 4
      have a5 := HBV2.out.cell 5
      have b5 := HCV2.out.cell 5
      have a6 := HBV2.out.cell 6
      have b6 := HCV2.out.cell 6
      have a7 := HBV2.out.cell 7
      have b7 := HCV2.out.cell 7
      have a8 := HBV2.out.cell 8
      have b8 := HCV2.out.cell 8
      have a9 := HBV2.out.cell 9
      have b9 := HCV2.out.cell 9
      have a10 := HBV2.out.cell 10
      have b10 := HCV2.out.cell 10
      have a11 := HBV2.out.cell 11
      have b11 := HCV2.out.cell 11
      simp at a0 b0 a1 b1 a2 b2 a3 b3 a4 b4 a5 b5 a6 b6 a7 b7 a8 b8 a9 b9 a10 b10 a11 b11
      have t0 := HTV2.out.cell 0
      have t1 := HTV2.out.cell 1
      have t2 := HTV2.out.cell 2
      simp at t0 t1 t2
      obtain ⟨s0, s1, s2, s3⟩ := stp_at HOV2.out HK.out HSG.out
      cases hl : s.list with
      | false =>
        rw [hl] at t0
        go_wp2
        go_ret
        exact rbel_one (HTH.out) HEV2.out HOV2.out HK.out HSG.out
      | true =>
        rw [hl] at t0
        go_wp2
        go_ret
        exact rbel_one (HTH.out) HEV2.out HOV2.out HK.out HSG.out
end Go.Proofs.YtioplgfopillnaaDoor

/- Lists of components in memory; turn.own by contract: each gets its own memory, the list reads as it did. -/
set_option linter.unusedSimpArgs false
set_option linter.unusedVariables false
namespace Go.Proofs.YtioplgfopillnaaDoor
open Go.RowKit
set_option linter.unusedVariables false

abbrev cpL (c : Cp) (pv lv ov : Value) : List Value := [U8 c.kind, pv, .string c.key, .int .i64 c.i, .int .i64 c.j, .int .i64 c.n, U8 c.v.kind, .int .i64 c.v.n, .string c.v.s, lv, ov, .string c.s]
/-- A component as an element. -/
def ECp : El Cp := { size := 12, rd := fun w S cs c => ∃ pv lv ov, cs = cpL c pv lv ov ∧ Sl ESt w S pv c.path ∧ Sl EVal w S lv c.v.l ∧ Sl EField w S ov c.v.o }
theorem ECp.ok : ECp.Ok where
  pos := by show 0 < 12; decide
  len := fun ⟨_, _, _, h, _⟩ => by subst h; rfl
  one := fun ⟨pv, lv, ov, h, h1, h2, h3⟩ u hu => by
    subst h
    obtain ⟨A, c, rfl, _⟩ := h1.shape
    obtain ⟨B, d, rfl, _⟩ := h2.shape
    obtain ⟨C, e, rfl, _⟩ := h3.shape
    simp only [List.mem_cons, List.not_mem_nil, or_false] at hu
    rcases hu with rfl | rfl | rfl | rfl | rfl | rfl | rfl | rfl | rfl | rfl | rfl | rfl <;> rfl
  keep := fun ⟨pv, lv, ov, h, h1, h2, h3⟩ hk hF => ⟨pv, lv, ov, h, h1.keep ESt.ok hk hF, h2.keep EVal.ok hk hF, h3.keep EField.ok hk hF⟩
  more := fun ⟨pv, lv, ov, h, h1, h2, h3⟩ hS => ⟨pv, lv, ov, h, h1.more ESt.ok hS, h2.more EVal.ok hS, h3.more EField.ok hS⟩
theorem cells_blk {g : Nat} {T : TypeId} : ∀ (m : List Value) (o : Nat) (w : World) (cur : Array Value), Blk w g T cur → o + m.length ≤ cur.size →
    ∃ cur', Blk (w.setCells g o m) g T cur' ∧ cur'.toList = cur.toList.take o ++ m ++ cur.toList.drop (o + m.length)
  | [], o, w, cur, h, ho => ⟨cur, h, by simp⟩
  | v :: m, o, w, cur, h, ho => by
    have ho' : o + (m.length + 1) ≤ cur.size := ho
    obtain ⟨cur', h1, h2⟩ := cells_blk m (o + 1) _ _ (h.set_ o v) (by rw [Array.size_setIfInBounds]; omega)
    refine ⟨cur', h1, ?_⟩
    have hl : o < cur.toList.length := by simp; omega
    rw [h2, Array.toList_setIfInBounds, List.set_eq_take_append_cons_drop, if_pos hl]
    have e0 : (cur.toList.take o).length = o := by rw [List.length_take]; omega
    have e1 : (cur.toList.take o ++ v :: cur.toList.drop (o + 1)).take (o + 1) = cur.toList.take o ++ [v] := by
      rw [List.take_append, e0, List.take_of_length_le (by omega), Nat.add_sub_cancel_left]; rfl
    have e2 : (cur.toList.take o ++ v :: cur.toList.drop (o + 1)).drop (o + 1 + m.length) = cur.toList.drop (o + (v :: m).length) := by
      rw [List.drop_append, e0, List.drop_of_length_le (by omega), List.nil_append, show o + 1 + m.length - o = m.length + 1 from by omega, List.drop_succ_cons, List.drop_drop]
      congr 1
      show o + 1 + m.length = o + (m.length + 1)
      omega
    rw [e1, e2]; simp
theorem cells_keep (g : Nat) : ∀ (m : List Value) (o : Nat) (w : World), Keep (· = g) w (w.setCells g o m)
  | [], o, w => Keep.refl _ _
  | v :: m, o, w => ((Keep.refl (· = g) w).set1 o v).trans (cells_keep g m (o + 1) _) fun _ _ h => h
/-- One component of an own row, stored over by a copy of it. -/
theorem own_put {w : World} {base g cap j : Nat} {S S2 : BS} {xs : List Cp} {m : List Value} (h : Own ECp w base TCMP S (.slice (some ⟨g, 0, none⟩) xs.length cap) xs) (hj : j < xs.length) (hS : ¬ S g) (hS2 : ¬ S2 g) (hx : ECp.rd w S2 m xs[j]) :
    Own ECp (w.setCells g (j * 12) m) base TCMP (fun k => S k ∨ S2 k) (.slice (some ⟨g, 0, none⟩) xs.length cap) xs := by
  obtain ⟨cur, hbg, _, hblk, hcap, hcm, hsz, hc⟩ := own_cells2 h
  have e12 : ECp.size = 12 := rfl
  rw [e12] at hsz
  have hml : m.length = 12 := ECp.ok.len hx
  have h6 : (j + 1) * 12 ≤ cap * 12 := Nat.mul_le_mul_right _ (by omega)
  obtain ⟨cur', hb', hl'⟩ := cells_blk m (j * 12) w cur hblk (by omega)
  have hkk := cells_keep g m (j * 12) w
  rw [hml] at hl'
  have := own_set ECp.ok hc hbg hcap hcm hsz hj hkk hb' hl' (ECp.ok.keep hx hkk fun k hk e => hS2 (e ▸ hk)) hS
  rw [List.set_getElem_self] at this
  exact this
/-- A row of components of the call's own, whose data lie elsewhere. -/
def OwnC (b : Nat) (g cap n : Nat) (l : List Cp) (w : World) : Prop := Own ECp w b TCMP (fun k => k ≠ g) (.slice (some ⟨g, 0, none⟩) n cap) l
/-- How long paths may be, how great values. -/
abbrev Fit (c : Cp) : Prop := c.path.length ≤ 1000 ∧ c.v.size ≤ 1000000
def OwnIs (b g cap n : Nat) (l : List Cp) (w : World) (e : Ending) (w' : World) : Prop := e = .returned (.slice (some ⟨g, 0, none⟩) n cap) ∧ OwnC b g cap n l w' ∧ Keep (· = g) w w'
theorem ownc_put {b g cap n j : Nat} {l : List Cp} {w0 w : World} {c : Cp} {pv lv ov : Value} (h : OwnC b g cap n l w) (hn : l.length = n) (hj : j < n) (hc : l[j]? = some c)
    (h1 : Sl ESt w (fun k => w0.heap.size ≤ k) pv c.path) (h2 : Sl EVal w (fun k => w0.heap.size ≤ k) lv c.v.l) (h3 : Sl EField w (fun k => w0.heap.size ≤ k) ov c.v.o) (hg : g < w0.heap.size) :
    OwnC b g cap n l (w.setCells g (j * 12) (cpL c pv lv ov)) := by
  subst hn
  have hj' : l[j] = c := (List.getElem?_eq_some_iff.1 hc).2
  have hr : ECp.rd w (fun k => w0.heap.size ≤ k) (cpL c pv lv ov) l[j] := by rw [hj']; exact ⟨pv, lv, ov, rfl, h1, h2, h3⟩
  have := own_put h hj (by simp) (by show ¬ _; omega) hr
  exact Own.more ECp.ok this fun k _ hk => by
    rcases hk with hk | hk
    · exact hk
    · show k ≠ g; omega
theorem Sl.lt_ {w : World} {S : BS} {v : Value} {l : List Cp} (h : Sl ECp w S v l) : Sl ECp w (fun k => k < w.heap.size) v l := h.more ECp.ok fun _ h1 _ => h1
set_option maxRecDepth 20000 in
set_option maxHeartbeats 3200000 in
theorem own_any (w : World) (b g cap n : Nat) (l : List Cp) (h : OwnC b g cap n l w) (hn : l.length = n) (hl : n ≤ 1000) (hf : ∀ c ∈ l, Fit c) :
    Calls Tryd.prog 28 #[.slice (some ⟨g, 0, none⟩) n cap] w (OwnIs b g cap n l w) := by
  have H := hid h
  have HF := hid hf
  have HN := hid hn
  have hcap : n ≤ cap ∧ cap ≤ maxLen ∧ g < w.heap.size := by
    obtain ⟨cur, _, _, hblk, h1, h2, _⟩ := own_cells2 (show Own ECp w b TCMP _ _ l from h)
    exact ⟨by omega, h2, hblk.lt⟩
  obtain ⟨hc1, hc2, hg⟩ := hcap
  unfold maxLen at hc2
  have HG := hid hg
  clear h hf hn hg
  go_enter Tryd.func28, Tryd.ntmps28
  go_wp2_with fail
  go_loopw [6] (fun i wr => ∃ j : Nat, j ≤ n ∧ i = .int .i64 j ∧ OwnC b g cap n l wr ∧ Keep (· = g) w wr) (fun i _ => n - (intOf i).toNat)
  case atStart => exact ⟨0, by omega, rfl, H.out, Keep.refl _ _⟩
  case round =>
    obtain ⟨j, hj, rfl, hO, hK⟩ := hrel
    by_cases hlt : j < n
    · have hj' : j < l.length := by rw [HN.out]; exact hlt
      obtain ⟨c0, ⟨pv, lv, ov, rfl, h1, h2, h3⟩, hcell⟩ := Own.at_ ECp.ok hO hj'
      have HFJ := hid (HF.out _ (List.getElem_mem hj'))
      have HJ := hid (List.getElem?_eq_some_iff.2 ⟨hj', rfl⟩ : l[j]? = some l[j])
      generalize l[j] = c at *
      have HCA := hid (show CAt wr _ (.agg (cpCells c pv lv ov)) c from ⟨pv, lv, ov, rfl, h1, h2, h3⟩)
      obtain ⟨Ap, cp, rfl, _⟩ := h1.shape
      obtain ⟨Al, cl, rfl, _⟩ := h2.shape
      obtain ⟨Ao, co, rfl, _⟩ := h3.shape
      have hfz := fun i => Own.frozen hO i
      have e12 : ECp.size = 12 := rfl
      have g0 := hcell 0 _ rfl
      have g1 := hcell 1 _ rfl
      have g2 := hcell 2 _ rfl
      have g3 := hcell 3 _ rfl
      have g4 := hcell 4 _ rfl
      have g5 := hcell 5 _ rfl
      have g6 := hcell 6 _ rfl
      have g7 := hcell 7 _ rfl
      have g8 := hcell 8 _ rfl
      have g9 := hcell 9 _ rfl
      have g10 := hcell 10 _ rfl
      have g11 := hcell 11 _ rfl
      simp only [e12, Nat.add_zero] at g0 g1 g2 g3 g4 g5 g6 g7 g8 g9 g10 g11
      have z0 := hfz (j * 12)
      have z1 := hfz (j * 12 + 1)
      have z2 := hfz (j * 12 + 2)
      have z3 := hfz (j * 12 + 3)
      have z4 := hfz (j * 12 + 4)
      have z5 := hfz (j * 12 + 5)
      have z6 := hfz (j * 12 + 6)
      have z7 := hfz (j * 12 + 7)
      have z8 := hfz (j * 12 + 8)
      have z9 := hfz (j * 12 + 9)
      have z10 := hfz (j * 12 + 10)
      have z11 := hfz (j * 12 + 11)
      have HO := hid hO
      have HK := hid hK
      clear hO hK hcell hfz h1 h2 h3
      go_wp2_with fail
      refine (comp_copy _ _ _ c HCA.out HFJ.out.1 HFJ.out.2).mono ?_
      rintro e w1 ⟨u', rfl, ⟨qv, mv, nv, rfl, k1, k2, k3⟩, hE1⟩
      obtain ⟨Bp, dp, rfl, _⟩ := k1.shape
      obtain ⟨Bl, dl, rfl, _⟩ := k2.shape
      obtain ⟨Bo, do_, rfl, _⟩ := k3.shape
      have hO1 : OwnC b g cap n l w1 := Own.ext ECp.ok HO.out hE1
      have hfz1 := fun i => Own.frozen hO1 i

      replace g0 := (hE1.cell (lt_of_cell g0) id).trans g0
      replace g1 := (hE1.cell (lt_of_cell g1) id).trans g1
      replace g2 := (hE1.cell (lt_of_cell g2) id).trans g2
      replace g3 := (hE1.cell (lt_of_cell g3) id).trans g3
      replace g4 := (hE1.cell (lt_of_cell g4) id).trans g4
      replace g5 := (hE1.cell (lt_of_cell g5) id).trans g5
      replace g6 := (hE1.cell (lt_of_cell g6) id).trans g6
      replace g7 := (hE1.cell (lt_of_cell g7) id).trans g7
      replace g8 := (hE1.cell (lt_of_cell g8) id).trans g8
      replace g9 := (hE1.cell (lt_of_cell g9) id).trans g9
      replace g10 := (hE1.cell (lt_of_cell g10) id).trans g10
      replace g11 := (hE1.cell (lt_of_cell g11) id).trans g11
      replace z0 := hfz1 (j * 12)
      replace z1 := hfz1 (j * 12 + 1)
      replace z2 := hfz1 (j * 12 + 2)
      replace z3 := hfz1 (j * 12 + 3)
      replace z4 := hfz1 (j * 12 + 4)
      replace z5 := hfz1 (j * 12 + 5)
      replace z6 := hfz1 (j * 12 + 6)
      replace z7 := hfz1 (j * 12 + 7)
      replace z8 := hfz1 (j * 12 + 8)
      replace z9 := hfz1 (j * 12 + 9)
      replace z10 := hfz1 (j * 12 + 10)
      replace z11 := hfz1 (j * 12 + 11)
      have hN := ownc_put hO1 HN.out hlt HJ.out k1 k2 k3 (by have := HG.out; have := HK.out.size; omega)
      have hKN : Keep (· = g) w (w1.setCells g (j * 12) (cpL c (.slice Bp c.path.length dp) (.slice Bl c.v.l.length dl) (.slice Bo c.v.o.length do_))) := (HK.out.trans hE1 fun _ _ h => h.elim).trans (cells_keep g _ _ _) fun _ _ h => h
      have HNN := hid hN
      have HKN := hid hKN
      clear hN hKN hO1 hfz1 hE1 k1 k2 k3
      go_wp2
      exact ⟨⟨j + 1, by omega, by go_num, HNN.out, HKN.out⟩, by simp [intOf]; omega⟩
    · have hjn : j = n := by omega
      subst hjn
      have HO := hid hO
      have HK := hid hK
      clear hO hK
      go_wp2
      go_ret
      exact ⟨rfl, HO.out, HK.out⟩

/-- A list of components, each of its own memory. -/
def ListIs (w : World) (v : Value) (l : List Cp) (e : Ending) (w' : World) : Prop := e = .returned v ∧ Sl ECp w' (fun k => k < w'.heap.size) v l ∧ Keep (fun k => v.ownBlock = some k) w w'
theorem own_list (w : World) (b : Nat) (S : BS) (v : Value) (l : List Cp) (h : Own ECp w b TCMP S v l) (hS : ∀ g, v.ownBlock = some g → ¬ S g) (hl : l.length ≤ 1000) (hf : ∀ c ∈ l, Fit c) :
    Calls Tryd.prog 28 #[v] w (ListIs w v l) := by
  rcases Nat.eq_zero_or_pos l.length with h0 | h0
  · obtain rfl := List.eq_nil_of_length_eq_zero h0
    rcases h with ⟨rfl, _⟩ | ⟨g, cap, cur, rfl, h1, h2, h3, h4, h5, h6⟩
    · exact (own_nil w).mono fun e w' h => ⟨h.1, Sl.nil _ _, by rw [h.2]; exact Keep.refl _ _⟩
    · refine (own_any w b g cap 0 [] (.inr ⟨g, cap, cur, rfl, h1, h2, h3, h4, h5, rfl⟩) rfl (by simp) (fun c hc => by cases hc)).mono fun e w' h => ⟨h.1, ?_, h.2.2.mono fun k _ hk => by rw [hk]; rfl⟩
      exact (Own.sl ECp.ok h.2.1).lt_
  · obtain ⟨g, cap, rfl, h1, h2, h3, h4⟩ := h.form h0
    have hS' := hS g rfl
    refine (own_any w b g cap _ l (Own.more ECp.ok h fun k _ hk => by show k ≠ g; intro e; subst e; exact hS' hk) rfl hl hf).mono fun e w' h => ⟨h.1, ?_, h.2.2.mono fun k _ hk => by rw [hk]; rfl⟩
    exact (Own.sl ECp.ok h.2.1).lt_

end Go.Proofs.YtioplgfopillnaaDoor

/-
  DERIVED: THE SHELF's CONTRACTS AT THIS DUMP, IN PLAIN WORDS (tools/lay-plain.mjs out of 'YtioplgfopillnaaDoorLayRCRaw.lean', which tools/lay-shelf.mjs wrote): THE SAME DECLARATIONS UNDER THE SAME NAMES: 'import', 'namespace', 'open', 'def', 'theorem' AND NOTHING ELSE: no command of the shelf's: FOR A HAND-IN. Each laying: the table of numbers ('.._ren') and one theorem, a field a fact of the dump's own or the kernel's comparison; each contract: ONE APPLICATION.
-/
namespace Go.Proofs
open Go.Shelf
def Tryd.laysRC_ren : Go.Shelf.Ren := ⟨fun | 195 => 104 | n => n, fun | 9 => 9 | 3 => 3 | 0 => 0 | 4 => 4 | n => n, fun | n => n⟩
theorem Tryd.laysRC : Go.Proofs.Lays.n195 Tryd.prog Tryd.laysRC_ren := {
  mixed := by kernel_rfl
  f195 := Tryd.func104.trans (congrArg some (by kernel_rfl))
  t0 := Tryd.underlying0
  a0 := Tryd.isAgg0
  z0 := Tryd.sizeOf0
  v0 := Tryd.zeroValue0
  t3 := Tryd.underlying3
  a3 := Tryd.isAgg3
  z3 := Tryd.sizeOf3
  v3 := Tryd.zeroValue3
  t4 := Tryd.underlying4
  a4 := Tryd.isAgg4
  z4 := Tryd.sizeOf4
  v4 := Tryd.zeroValue4
  t9 := Tryd.underlying9
  a9 := Tryd.isAgg9
  z9 := Tryd.sizeOf9
  v9 := Tryd.zeroValue9 }
end Go.Proofs
