/- Sound of any fields, Val of any value, are what the chapter says; both stay: the walk. -/
import Derived.Test.YtggkidnlmaindaaDoorProjP
import Derived.Test.YtggkidnlmaindaaDoorRefSameAny
import Derived.Test.YtggkidnlmaindaaDoorProjJ
import Derived.Test.YtggkidnlmaindaaDoorProjK
import Derived.SizedLaws
set_option linter.unusedSimpArgs false
set_option linter.unusedVariables false
namespace Go.Proofs.YtggkidnlmaindaaDoor
open Go.RowKit
set_option linter.unusedVariables false

theorem F.sizes_le : ∀ {l : List F} {n : Nat}, (∀ f ∈ l, f.v.size ≤ n) → F.sizes l ≤ l.length * (n + 1)
  | [], _, _ => by simp [F.sizes]
  | f :: fs, n, h => by
    have h1 := h f (by simp)
    have h2 := F.sizes_le (l := fs) (n := n) fun x hx => h x (by simp [hx])
    rw [F.sizes, F.size_eq, List.length_cons, Nat.add_mul]
    omega
theorem vat_true {w : World} {S : BS} {u : Value} {x : V} (h : VAt w S u x) : VAt w (fun _ => True) u x := h.more fun _ _ _ => trivial
set_option maxRecDepth 20000 in
set_option maxHeartbeats 12800000 in
theorem sounds_walk (lv fv : Value) (ts : List Tk) (fs : List ByteArray) (pick : Int) (hp : (Lit.int .u16 pick).wf = true) (w : World) (hts : Sl ETok w (fun _ => True) lv ts) (hfs : Sl EStr w (fun _ => True) fv fs) (hz : ∀ f ∈ fs, f.size ≤ 9223372036854775807) (hv : ValAny w) :
    Calls Tryd.prog 3 #[lv, fv, .int .u16 pick] w fun e w' => e = .returned (.bool true) ∧ Ext w w' := by
  obtain ⟨Ats, cts, rfl, _, _⟩ := hts.shape
  obtain ⟨Afs, cfs, rfl, _, _⟩ := hfs.shape
  have HL := hid hts
  have HF := hid hfs
  have HVA := hid hv
  have HZ0 := hid hz
  have HP := hid hp
  clear hts hfs hv hz hp
  have HEND := hid (show ∀ wx, Ext w wx → Calls Tryd.prog 9 #[] wx fun e w' => e = .returned (.bool true) ∧ Ext w w' from fun wx h => (known18_ok w wx HVA.out h).mono fun e w' h2 => ⟨h2.1, h.ext h2.2⟩)
  have HEW := hid (Keep.refl (fun _ => False) w)
  go_enter Tryd.func3, Tryd.ntmps3
  go_wp2_with fail
  refine (heavy18_ok _ _ _ _ _ _ _ HL.out HF.out).mono ?_
  rintro e w1 ⟨b1, rfl, hE⟩
  replace HL := hid (HL.out.ext ETok.ok hE)
  replace HF := hid (HF.out.ext EStr.ok hE)
  replace HEW := hid (HEW.out.ext hE)
  clear hE
  cases b1 with
  | true =>
    go_wp2_with fail
    refine (HEND.out _ HEW.out).mono ?_
    rintro e w2 ⟨rfl, hz⟩
    have HZ := hid hz
    clear hz
    go_wp2
    go_ret
    exact ⟨rfl, HZ.out⟩
  | false =>
    go_wp2_with fail
    refine (known18_ok w _ HVA.out HEW.out).mono ?_
    rintro e w3 ⟨rfl, hE⟩
    replace HL := hid (HL.out.ext ETok.ok hE)
    replace HF := hid (HF.out.ext EStr.ok hE)
    replace HEW := hid (HEW.out.ext hE)
    clear hE HEND
    go_wp2_with fail
    refine (rawall2_ok _ _ _ _ HL.out).mono ?_
    rintro e w4 ⟨u, x, rfl, hsz, ⟨lx, ox, rfl, hlx, hox⟩, hE⟩
    obtain ⟨Ax1, cx1, rfl, _⟩ := hlx.shape
    obtain ⟨Ax2, cx2, rfl, _⟩ := hox.shape
    have HSx := hid hsz.1
    clear hsz
    have hA : Ext w4 (w4.alloc (.cells #[U8 x.kind, .int .i64 x.n, .string x.s, .slice Ax1 x.l.length cx1, .slice Ax2 x.o.length cx2] TVAL)) := (Keep.refl _ _).alloc _
    replace HL := hid (HL.out.ext ETok.ok (hE.ext hA))
    replace HF := hid (HF.out.ext EStr.ok (hE.ext hA))
    replace HEW := hid (HEW.out.ext (hE.ext hA))
    have HBx := hid (Blk.new w4 TVAL #[U8 x.kind, .int .i64 x.n, .string x.s, .slice Ax1 x.l.length cx1, .slice Ax2 x.o.length cx2])
    have HVx := hid (show VAt (w4.alloc (.cells #[U8 x.kind, .int .i64 x.n, .string x.s, .slice Ax1 x.l.length cx1, .slice Ax2 x.o.length cx2] TVAL)) (fun _ => True) (.agg #[U8 x.kind, .int .i64 x.n, .string x.s, .slice Ax1 x.l.length cx1, .slice Ax2 x.o.length cx2]) x from VAt.ext (VAt.more ⟨_, _, rfl, hlx, hox⟩ fun _ _ _ => trivial) hA)
    clear hA hlx hox hE
    obtain ⟨qx0, qx1, qx2, qx3, qx4⟩ := blk5 HBx.out
    go_wp2_with fail
    generalize w4.alloc (.cells #[U8 x.kind, .int .i64 x.n, .string x.s, .slice Ax1 x.l.length cx1, .slice Ax2 x.o.length cx2] TVAL) = w5 at *
    refine (rcopy_any _ x (Nat.le_refl _) (by have := HSx.out; omega) _ _ _ HVx.out).mono ?_
    rintro e w6 hg
    obtain ⟨u, rfl, ⟨lx, ox, rfl, hlx, hox⟩, hE⟩ := hg.at_
    obtain ⟨Ay1, cy1, rfl, _⟩ := hlx.shape
    obtain ⟨Ay2, cy2, rfl, _⟩ := hox.shape
    clear hg
    have hA : Ext w6 (w6.alloc (.cells #[U8 x.kind, .int .i64 x.n, .string x.s, .slice Ay1 x.l.length cy1, .slice Ay2 x.o.length cy2] TVAL)) := (Keep.refl _ _).alloc _
    replace HL := hid (HL.out.ext ETok.ok (hE.ext hA))
    replace HF := hid (HF.out.ext EStr.ok (hE.ext hA))
    replace HEW := hid (HEW.out.ext (hE.ext hA))
    replace HBx := hid (HBx.out.keep (hE.ext hA) id)
    replace HVx := hid (HVx.out.ext (hE.ext hA))
    have HBy := hid (Blk.new w6 TVAL #[U8 x.kind, .int .i64 x.n, .string x.s, .slice Ay1 x.l.length cy1, .slice Ay2 x.o.length cy2])
    have HVy := hid (show VAt (w6.alloc (.cells #[U8 x.kind, .int .i64 x.n, .string x.s, .slice Ay1 x.l.length cy1, .slice Ay2 x.o.length cy2] TVAL)) (fun _ => True) (.agg #[U8 x.kind, .int .i64 x.n, .string x.s, .slice Ay1 x.l.length cy1, .slice Ay2 x.o.length cy2]) x from VAt.ext (VAt.more ⟨_, _, rfl, hlx, hox⟩ fun _ _ _ => trivial) hA)
    clear hA hlx hox hE qx0 qx1 qx2 qx3 qx4
    go_wp2_with fail
    generalize w6.alloc (.cells #[U8 x.kind, .int .i64 x.n, .string x.s, .slice Ay1 x.l.length cy1, .slice Ay2 x.o.length cy2] TVAL) = w7 at *
    refine (object_ok _ _ _ _ HL.out).mono ?_
    rintro e w8 ⟨u, ys, m, rfl, hfl, ⟨lz, oz, rfl, hlz, hoz⟩, hE⟩
    have HSZ := hid (show (V.mk 5 0 ⟨#[]⟩ [] ys).size ≤ 1000000 from by
      have h5 : ys.length ≤ 5 := by
        have := congrArg List.length hfl.1
        rw [List.length_map, List.length_take] at this
        simp only [fiveKeys, List.length_cons, List.length_nil] at this
        omega
      have := F.sizes_le (n := 241) (l := ys) fun f hf => (hfl.2 f hf).2
      have h2 : (V.mk 5 0 ⟨#[]⟩ [] ys).size = 1 + V.sizes [] + F.sizes ys := V.size_eq _
      have h3 : V.sizes [] = 0 := by rw [V.sizes]
      have : ys.length * 242 ≤ 5 * 242 := Nat.mul_le_mul_right _ h5
      omega)
    have HFK := hid (show (ys.take 16).map F.key = (fiveKeys.take m).take 16 from by rw [List.map_take, hfl.1])
    generalize hz : V.mk 5 0 ⟨#[]⟩ [] ys = z at *
    obtain ⟨Az1, cz1, rfl, _⟩ := hlz.shape
    obtain ⟨Az2, cz2, rfl, _⟩ := hoz.shape
    have hzo : ys = z.o := by rw [← hz]; rfl
    rw [hzo] at HFK
    clear hfl hz hzo
    have hA : Ext w8 (w8.alloc (.cells #[U8 z.kind, .int .i64 z.n, .string z.s, .slice Az1 z.l.length cz1, .slice Az2 z.o.length cz2] TVAL)) := (Keep.refl _ _).alloc _
    replace HL := hid (HL.out.ext ETok.ok (hE.ext hA))
    replace HF := hid (HF.out.ext EStr.ok (hE.ext hA))
    replace HEW := hid (HEW.out.ext (hE.ext hA))
    replace HBx := hid (HBx.out.keep (hE.ext hA) id)
    replace HVx := hid (HVx.out.ext (hE.ext hA))
    replace HBy := hid (HBy.out.keep (hE.ext hA) id)
    replace HVy := hid (HVy.out.ext (hE.ext hA))
    have HBz := hid (Blk.new w8 TVAL #[U8 z.kind, .int .i64 z.n, .string z.s, .slice Az1 z.l.length cz1, .slice Az2 z.o.length cz2])
    have HVz := hid (show VAt (w8.alloc (.cells #[U8 z.kind, .int .i64 z.n, .string z.s, .slice Az1 z.l.length cz1, .slice Az2 z.o.length cz2] TVAL)) (fun _ => True) (.agg #[U8 z.kind, .int .i64 z.n, .string z.s, .slice Az1 z.l.length cz1, .slice Az2 z.o.length cz2]) z from VAt.ext (VAt.more ⟨_, _, rfl, hlz, hoz⟩ fun _ _ _ => trivial) hA)
    clear hA hlz hoz hE
    obtain ⟨qz0, qz1, qz2, qz3, qz4⟩ := blk5 HBz.out
    go_wp2_with fail
    generalize w8.alloc (.cells #[U8 z.kind, .int .i64 z.n, .string z.s, .slice Az1 z.l.length cz1, .slice Az2 z.o.length cz2] TVAL) = w9 at *
    refine (keys_ok _ _ _ z pick HVz.out HP.out).mono ?_
    rintro e w10 ⟨kv, ks, rfl, hsub, hks, hE⟩
    obtain ⟨Ak, ck, rfl, _⟩ := hks.shape
    rw [HFK.out] at hsub
    have HSB := hid (show psnd ks = true ∧ ∀ f ∈ ks, f.size ≤ 9223372036854775807 from by
      have h5 := hsub.trans (List.take_sublist _ _)
      refine ⟨psnd_five h5, fun f hf => ?_⟩
      have := (List.take_sublist _ _).subset (h5.subset hf)
      simp only [fiveKeys, List.mem_cons, List.not_mem_nil, or_false] at this
      rcases this with rfl | rfl | rfl | rfl | rfl <;> exact Nat.le_trans (show _ ≤ 1 from Nat.le_refl _) (by omega))
    have HK := hid hks
    replace HL := hid (HL.out.ext ETok.ok hE)
    replace HF := hid (HF.out.ext EStr.ok hE)
    replace HEW := hid (HEW.out.ext hE)
    replace HBx := hid (HBx.out.keep hE id)
    replace HVx := hid (HVx.out.ext hE)
    replace HBy := hid (HBy.out.keep hE id)
    replace HVy := hid (HVy.out.ext hE)
    replace HBz := hid (HBz.out.keep hE id)
    replace HVz := hid (HVz.out.ext hE)
    clear hsub hks hE HFK HP qz0 qz1 qz2 qz3 qz4
    obtain ⟨qx0, qx1, qx2, qx3, qx4⟩ := blk5 HBx.out
    obtain ⟨qy0, qy1, qy2, qy3, qy4⟩ := blk5 HBy.out
    obtain ⟨r, hr⟩ : ∃ r, psnd fs = r := ⟨_, rfl⟩
    have HR := hid hr
    clear hr
    have hrr : (r == r) = true := by simp
    go_wp2_with fail
    refine wp_region_grow (specOf [(1, fun v _ => v = .bool r), (3, fun v _ => v = .bool r), (8, fun u w' => VAt w' (fun _ => True) u (projV x fs)), (11, fun u w' => VAt w' (fun _ => True) u (projV x fs)), (12, fun v _ => v = .bool true), (17, fun v _ => v = .bool true)]) (fun w' => Ext w10 w')
      (stable_cons (fun v w w' h he => h) (stable_cons (fun v w w' h he => h) (stable_cons (fun v w w' h he => h.ext he) (stable_cons (fun v w w' h he => h.ext he) (stable_cons (fun v w w' h he => h) (stable_cons (fun v w w' h he => h) stable_nil)))))) (stableC_ext _) (by kernel_rfl) (by kernel_rfl) (Keep.drew (Keep.refl _ _)) ?_
    iterate 1
      (try simp only [Act.put, List.setIfInBounds_toArray, List.set_cons_zero, List.set_cons_succ])
      refine grow_run rfl rfl rfl ?_
      apply Exists.intro
      refine ⟨fun w' hC hK => ?_, ?_⟩
      · go_simp
        rfl
    (try simp only [Act.put, List.setIfInBounds_toArray, List.set_cons_zero, List.set_cons_succ])
    refine grow_eff rfl rfl rfl (fun w' hC hK => ?_) (fun v1 hv1 => ?_)
    · unfold growAt
      go_simp
      refine grow_call ((psound_ok _ _ _ _ (HF.out.ext EStr.ok hC) HZ0.out (HVA.out.ext (HEW.out.ext hC))).mono ?_)
      rintro e w'' ⟨rfl, h1⟩
      exact ⟨_, rfl, h1, by rw [HR.out]⟩
    obtain ⟨_, _, rfl⟩ := hv1.head
    iterate 1
      (try simp only [Act.put, List.setIfInBounds_toArray, List.set_cons_zero, List.set_cons_succ])
      refine grow_run rfl rfl rfl ?_
      apply Exists.intro
      refine ⟨fun w' hC hK => ?_, ?_⟩
      · go_simp
        rfl
    (try simp only [Act.put, List.setIfInBounds_toArray, List.set_cons_zero, List.set_cons_succ])
    refine grow_eff rfl rfl rfl (fun w' hC hK => ?_) (fun v3 hv3 => ?_)
    · unfold growAt
      go_simp
      refine grow_call ((rpsound_ok _ _ _ _ (HF.out.ext EStr.ok hC) HZ0.out (HVA.out.ext (HEW.out.ext hC))).mono ?_)
      rintro e w'' ⟨rfl, h1⟩
      exact ⟨_, rfl, h1, by rw [HR.out]⟩
    obtain ⟨_, _, rfl⟩ := hv3.head
    iterate 4
      (try simp only [Act.put, List.setIfInBounds_toArray, List.set_cons_zero, List.set_cons_succ])
      refine grow_run rfl rfl rfl ?_
      apply Exists.intro
      refine ⟨fun w' hC hK => ?_, ?_⟩
      · have qx0 := (hC.cell (lt_of_cell qx0) id).trans qx0
        have qx1 := (hC.cell (lt_of_cell qx1) id).trans qx1
        have qx2 := (hC.cell (lt_of_cell qx2) id).trans qx2
        have qx3 := (hC.cell (lt_of_cell qx3) id).trans qx3
        have qx4 := (hC.cell (lt_of_cell qx4) id).trans qx4
        have qy0 := (hC.cell (lt_of_cell qy0) id).trans qy0
        have qy1 := (hC.cell (lt_of_cell qy1) id).trans qy1
        have qy2 := (hC.cell (lt_of_cell qy2) id).trans qy2
        have qy3 := (hC.cell (lt_of_cell qy3) id).trans qy3
        have qy4 := (hC.cell (lt_of_cell qy4) id).trans qy4
        go_simp
        rfl
    (try simp only [Act.put, List.setIfInBounds_toArray, List.set_cons_zero, List.set_cons_succ])
    refine grow_eff rfl rfl rfl (fun w' hC hK => ?_) (fun v8 hv8 => ?_)
    · unfold growAt
      go_simp
      refine grow_call ((pval_ok _ _ _ _ _ x fs (VAt.ext HVx.out hC) (by have := HSx.out; omega) (HF.out.ext EStr.ok hC)).mono ?_)
      rintro e w'' ⟨u', rfl, h1, h2⟩
      exact ⟨_, rfl, h2, vat_true h1⟩
    iterate 2
      (try simp only [Act.put, List.setIfInBounds_toArray, List.set_cons_zero, List.set_cons_succ])
      refine grow_run rfl rfl rfl ?_
      apply Exists.intro
      refine ⟨fun w' hC hK => ?_, ?_⟩
      · have qx0 := (hC.cell (lt_of_cell qx0) id).trans qx0
        have qx1 := (hC.cell (lt_of_cell qx1) id).trans qx1
        have qx2 := (hC.cell (lt_of_cell qx2) id).trans qx2
        have qx3 := (hC.cell (lt_of_cell qx3) id).trans qx3
        have qx4 := (hC.cell (lt_of_cell qx4) id).trans qx4
        have qy0 := (hC.cell (lt_of_cell qy0) id).trans qy0
        have qy1 := (hC.cell (lt_of_cell qy1) id).trans qy1
        have qy2 := (hC.cell (lt_of_cell qy2) id).trans qy2
        have qy3 := (hC.cell (lt_of_cell qy3) id).trans qy3
        have qy4 := (hC.cell (lt_of_cell qy4) id).trans qy4
        go_simp
        rfl
    (try simp only [Act.put, List.setIfInBounds_toArray, List.set_cons_zero, List.set_cons_succ])
    refine grow_eff rfl rfl rfl (fun w' hC hK => ?_) (fun v11 hv11 => ?_)
    · unfold growAt
      go_simp
      refine grow_call ((rpval_ok _ _ _ _ _ x fs (VAt.ext HVy.out hC) (by have := HSx.out; omega) (HF.out.ext EStr.ok hC)).mono ?_)
      rintro e w'' ⟨u', rfl, h1, h2⟩
      exact ⟨_, rfl, h2, vat_true h1⟩
    (try simp only [Act.put, List.setIfInBounds_toArray, List.set_cons_zero, List.set_cons_succ])
    refine grow_eff rfl rfl rfl (fun w' hC hK => ?_) (fun v12 hv12 => ?_)
    · unfold growAt
      go_simp
      have h11 : VAt w' (fun _ => True) v11 (projV x fs) := hK.get (i := 11) List.mem_cons_self (by kernel_rfl)
      have h8 : VAt w' (fun _ => True) v8 (projV x fs) := hK.get (i := 8) (List.mem_cons_of_mem _ List.mem_cons_self) (by kernel_rfl)
      refine grow_call ((rsame_any _ _ _ (Nat.le_refl _) true (by simp) _ _ _ _ _ h8 h11).mono ?_)
      rintro e w'' ⟨rfl, h1⟩
      exact ⟨_, rfl, h1, rfl⟩
    obtain ⟨_, _, rfl⟩ := hv12.head
    iterate 4
      (try simp only [Act.put, List.setIfInBounds_toArray, List.set_cons_zero, List.set_cons_succ])
      refine grow_run rfl rfl rfl ?_
      apply Exists.intro
      refine ⟨fun w' hC hK => ?_, ?_⟩
      · have qx0 := (hC.cell (lt_of_cell qx0) id).trans qx0
        have qx1 := (hC.cell (lt_of_cell qx1) id).trans qx1
        have qx2 := (hC.cell (lt_of_cell qx2) id).trans qx2
        have qx3 := (hC.cell (lt_of_cell qx3) id).trans qx3
        have qx4 := (hC.cell (lt_of_cell qx4) id).trans qx4
        have qy0 := (hC.cell (lt_of_cell qy0) id).trans qy0
        have qy1 := (hC.cell (lt_of_cell qy1) id).trans qy1
        have qy2 := (hC.cell (lt_of_cell qy2) id).trans qy2
        have qy3 := (hC.cell (lt_of_cell qy3) id).trans qy3
        have qy4 := (hC.cell (lt_of_cell qy4) id).trans qy4
        go_simp
        rfl
    (try simp only [Act.put, List.setIfInBounds_toArray, List.set_cons_zero, List.set_cons_succ])
    refine grow_eff rfl rfl rfl (fun w' hC hK => ?_) (fun v17 hv17 => ?_)
    · unfold growAt
      go_simp
      refine grow_call ((rsame_any _ _ _ (Nat.le_refl _) true (by simp) _ _ _ _ _ (VAt.ext HVx.out hC) (VAt.ext HVy.out hC)).mono ?_)
      rintro e w'' ⟨rfl, h1⟩
      exact ⟨_, rfl, h1, rfl⟩
    obtain ⟨_, _, rfl⟩ := hv17.head
    iterate 2
      (try simp only [Act.put, List.setIfInBounds_toArray, List.set_cons_zero, List.set_cons_succ])
      refine grow_run rfl rfl rfl ?_
      apply Exists.intro
      refine ⟨fun w' hC hK => ?_, ?_⟩
      · go_simp
        rfl
    refine grow_nil fun wz hC _ => ?_
    have hC : Ext w10 wz := hC
    replace HEW := hid (HEW.out.ext hC)
    replace HBz := hid (HBz.out.keep hC id)
    replace HVz := hid (HVz.out.ext hC)
    replace HK := hid (HK.out.ext EStr.ok hC)
    clear hC qx0 qx1 qx2 qx3 qx4 qy0 qy1 qy2 qy3 qy4 HVx HVy HBx HBy HL HF
    obtain ⟨qz0, qz1, qz2, qz3, qz4⟩ := blk5 HBz.out
    go_wp2_with fail
    refine wp_region_grow (specOf [(4, fun u w' => VAt w' (fun _ => True) u (projV z ks)), (7, fun u w' => VAt w' (fun _ => True) u (projV z ks)), (8, fun v _ => v = .bool true), (12, fun v _ => v = .bool true)]) (fun w' => Ext wz w')
      (stable_cons (fun v w w' h he => h.ext he) (stable_cons (fun v w w' h he => h.ext he) (stable_cons (fun v w w' h he => h) (stable_cons (fun v w w' h he => h) stable_nil)))) (stableC_ext _) (by kernel_rfl) (by kernel_rfl) (Keep.drew (Keep.refl _ _)) ?_
    iterate 4
      (try simp only [Act.put, List.setIfInBounds_toArray, List.set_cons_zero, List.set_cons_succ])
      refine grow_run rfl rfl rfl ?_
      apply Exists.intro
      refine ⟨fun w' hC hK => ?_, ?_⟩
      · have qz0 := (hC.cell (lt_of_cell qz0) id).trans qz0
        have qz1 := (hC.cell (lt_of_cell qz1) id).trans qz1
        have qz2 := (hC.cell (lt_of_cell qz2) id).trans qz2
        have qz3 := (hC.cell (lt_of_cell qz3) id).trans qz3
        have qz4 := (hC.cell (lt_of_cell qz4) id).trans qz4
        go_simp
        rfl
    (try simp only [Act.put, List.setIfInBounds_toArray, List.set_cons_zero, List.set_cons_succ])
    refine grow_eff rfl rfl rfl (fun w' hC hK => ?_) (fun v4 hv4 => ?_)
    · unfold growAt
      go_simp
      refine grow_call ((pval_ok _ _ _ _ _ z ks (VAt.ext HVz.out hC) HSZ.out (HK.out.ext EStr.ok hC)).mono ?_)
      rintro e w'' ⟨u', rfl, h1, h2⟩
      exact ⟨_, rfl, h2, vat_true h1⟩
    iterate 2
      (try simp only [Act.put, List.setIfInBounds_toArray, List.set_cons_zero, List.set_cons_succ])
      refine grow_run rfl rfl rfl ?_
      apply Exists.intro
      refine ⟨fun w' hC hK => ?_, ?_⟩
      · have qz0 := (hC.cell (lt_of_cell qz0) id).trans qz0
        have qz1 := (hC.cell (lt_of_cell qz1) id).trans qz1
        have qz2 := (hC.cell (lt_of_cell qz2) id).trans qz2
        have qz3 := (hC.cell (lt_of_cell qz3) id).trans qz3
        have qz4 := (hC.cell (lt_of_cell qz4) id).trans qz4
        go_simp
        rfl
    (try simp only [Act.put, List.setIfInBounds_toArray, List.set_cons_zero, List.set_cons_succ])
    refine grow_eff rfl rfl rfl (fun w' hC hK => ?_) (fun v7 hv7 => ?_)
    · unfold growAt
      go_simp
      refine grow_call ((rpval_ok _ _ _ _ _ z ks (VAt.ext HVz.out hC) HSZ.out (HK.out.ext EStr.ok hC)).mono ?_)
      rintro e w'' ⟨u', rfl, h1, h2⟩
      exact ⟨_, rfl, h2, vat_true h1⟩
    (try simp only [Act.put, List.setIfInBounds_toArray, List.set_cons_zero, List.set_cons_succ])
    refine grow_eff rfl rfl rfl (fun w' hC hK => ?_) (fun v8 hv8 => ?_)
    · unfold growAt
      go_simp
      have h7 : VAt w' (fun _ => True) v7 (projV z ks) := hK.get (i := 7) List.mem_cons_self (by kernel_rfl)
      have h4 : VAt w' (fun _ => True) v4 (projV z ks) := hK.get (i := 4) (List.mem_cons_of_mem _ List.mem_cons_self) (by kernel_rfl)
      refine grow_call ((rsame_any _ _ _ (Nat.le_refl _) true (by simp) _ _ _ _ _ h4 h7).mono ?_)
      rintro e w'' ⟨rfl, h1⟩
      exact ⟨_, rfl, h1, rfl⟩
    obtain ⟨_, _, rfl⟩ := hv8.head
    iterate 3
      (try simp only [Act.put, List.setIfInBounds_toArray, List.set_cons_zero, List.set_cons_succ])
      refine grow_run rfl rfl rfl ?_
      apply Exists.intro
      refine ⟨fun w' hC hK => ?_, ?_⟩
      · go_simp
        rfl
    (try simp only [Act.put, List.setIfInBounds_toArray, List.set_cons_zero, List.set_cons_succ])
    refine grow_eff rfl rfl rfl (fun w' hC hK => ?_) (fun v12 hv12 => ?_)
    · unfold growAt
      go_simp
      refine grow_call ((psound_ok _ _ _ _ (HK.out.ext EStr.ok hC) HSB.out.2 (HVA.out.ext (HEW.out.ext hC))).mono ?_)
      rw [HSB.out.1]
      rintro e w'' ⟨rfl, h1⟩
      exact ⟨_, rfl, h1, rfl⟩
    obtain ⟨_, _, rfl⟩ := hv12.head
    iterate 2
      (try simp only [Act.put, List.setIfInBounds_toArray, List.set_cons_zero, List.set_cons_succ])
      refine grow_run rfl rfl rfl ?_
      apply Exists.intro
      refine ⟨fun w' hC hK => ?_, ?_⟩
      · go_simp
        rfl
    refine grow_nil fun wq hC _ => ?_
    replace HEW := hid (HEW.out.ext (show Ext wz wq from hC))
    clear hC qz0 qz1 qz2 qz3 qz4 HVz HBz HK
    go_wp2
    go_ret
    exact ⟨by first | rfl | simp, HEW.out⟩
theorem sounds_lift {Q0 Q1 : Prop} (lv : Value) (ts : List Tk) (fv : Value) (fs : List ByteArray) (pick : Int) (w : World) (h0 : Sl ETok w (fun k => k < w.heap.size) lv ts) (q0 : Q0) (h1 : Sl EStr w (fun k => k < w.heap.size) fv fs) (q1 : Q1 ∧ ∀ f ∈ fs, f.size ≤ reachBytes) (hp : (Lit.int .u16 pick).wf = true) (hv : ValAny w) :
    Calls Tryd.prog 3 #[lv, fv, .int .u16 pick] w fun e w' => e = .returned (.bool true) ∧ Below w.heap.size w w' :=
  (sounds_walk lv fv ts fs pick hp w (h0.more ETok.ok fun _ _ _ => trivial) (h1.more EStr.ok fun _ _ _ => trivial) (fun f hf => by have := q1.2 f hf; unfold reachBytes at this; omega) hv).mono fun e w' h => ⟨h.1, h.2.toBelow⟩
end Go.Proofs.YtggkidnlmaindaaDoor
