/- A value that is built of pieces is sound; the weights and depths of its parts are those of the whole: the walk. -/
import Derived.Test.YtaemmabaekjkeaaDoorLawKnown1
import Derived.SizedLaws
import Derived.Test.YtaemmabaekjkeaaDoorLawOne
set_option linter.unusedSimpArgs false
set_option linter.unusedVariables false
namespace Go.Proofs.YtaemmabaekjkeaaDoor
open Go.RowKit
set_option linter.unusedVariables false
theorem weight_small {x : V} (h : SV x) (hs : x.size ≤ 1000) : x.weight ≤ 601000 := by
  have := V.weight_le 300 x (SV.str x h)
  omega
theorem wrap_small {n : Nat} (h : n ≤ 9000000) : wrap64 (n : Int) = n := by unfold wrap64; omega
theorem two_at {w : World} {S : BS} {b : Nat} {x y : V} {a0 a1 a2 a3 a4 b0 b1 b2 b3 b4 : Value} (hx : VAt w S (.agg #[a0, a1, a2, a3, a4]) x) (hy : VAt w S (.agg #[b0, b1, b2, b3, b4]) y) (hS : S b) (h : Blk w b TVAL #[a0, a1, a2, a3, a4, b0, b1, b2, b3, b4]) :
    VAt w S (.agg #[.int .u8 4, .int .i64 0, .string ⟨#[]⟩, .slice (some ⟨b, 0, none⟩) 2 2, .slice none 0 0]) (.mk 4 0 ⟨#[]⟩ [x, y] []) :=
  ⟨_, _, rfl, ⟨[a0, a1, a2, a3, a4] ++ ([b0, b1, b2, b3, b4] ++ []), ⟨rfl, _, 2, rfl, by simp [V.l], by simp [maxLen], fun _ => ⟨b, 0, rfl, hS, h.lt, fun j u hu => by rw [Nat.zero_add, h.cell]; simpa using hu⟩⟩, ⟨_, _, rfl, hx.rd, ⟨_, _, rfl, hy.rd, rfl⟩⟩⟩, Sl.nil _ _⟩
theorem one_at {w : World} {S : BS} {b : Nat} {x : V} {key : ByteArray} {a0 a1 a2 a3 a4 : Value} (hx : VAt w S (.agg #[a0, a1, a2, a3, a4]) x) (hS : S b) (h : Blk w b TFIELD #[.string key, a0, a1, a2, a3, a4]) :
    VAt w S (.agg #[.int .u8 5, .int .i64 0, .string ⟨#[]⟩, .slice none 0 0, .slice (some ⟨b, 0, none⟩) 1 1]) (.mk 5 0 ⟨#[]⟩ [] [.mk key x]) :=
  ⟨_, _, rfl, Sl.nil _ _, ⟨_, ⟨rfl, _, 1, rfl, by simp [V.o], by simp [maxLen], fun _ => ⟨b, 0, rfl, hS, h.lt, fun j u hu => by rw [Nat.zero_add, h.cell]; simpa [F.key] using hu⟩⟩, Cells.single (rdF_iff.2 ⟨_, rfl, hx.rd⟩)⟩⟩
theorem list_sv {x y : V} (hx : SV x) (hy : SV y) : SV (.mk 4 0 ⟨#[]⟩ [x, y] []) := by
  rw [SV]
  exact ⟨.inr (.inr (.inr (.inr (.inl ⟨rfl, rfl, rfl, rfl⟩)))), by rw [SVs, SVs, SVs]; exact ⟨hx, hy, trivial⟩, by rw [SFs]; trivial, trivial⟩
theorem obj_sv {x : V} {k : ByteArray} (hx : SV x) (hk : Asc k) : SV (.mk 5 0 ⟨#[]⟩ [] [.mk k x]) := by
  rw [SV]
  exact ⟨.inr (.inr (.inr (.inr (.inr ⟨rfl, rfl, rfl, rfl⟩)))), by rw [SVs]; trivial, by rw [SFs, SFs, SF]; exact ⟨⟨hk, hx⟩, trivial⟩, ⟨fun g hg => by simp at hg, trivial⟩⟩
/-- A row that a region makes. -/
def RowMade (B T : Nat) (cs : Array Value) (v : Value) (w : World) : Prop := ∃ n, v = .slice (some ⟨n, 0, none⟩) 1 1 ∧ B ≤ n ∧ Blk w n T cs
/-- A box that a region makes. -/
def BoxMade (B T : Nat) (cs : Array Value) (v : Value) (w : World) : Prop := ∃ n, v = .pointer (some ⟨n, 0, none⟩) ∧ B ≤ n ∧ Blk w n T cs
theorem RowMade.ext {B T : Nat} {cs : Array Value} {v : Value} {w w' : World} (h : RowMade B T cs v w) (he : Ext w w') : RowMade B T cs v w' := by
  obtain ⟨n, h1, h2, h3⟩ := h; exact ⟨n, h1, h2, h3.keep he id⟩
theorem BoxMade.ext {B T : Nat} {cs : Array Value} {v : Value} {w w' : World} (h : BoxMade B T cs v w) (he : Ext w w') : BoxMade B T cs v w' := by
  obtain ⟨n, h1, h2, h3⟩ := h; exact ⟨n, h1, h2, h3.keep he id⟩
set_option maxRecDepth 20000 in
set_option maxHeartbeats 12800000 in
theorem built_walk (lv : Value) (mv : Value) (ts : List Tk) (ms : List Tk) (key : ByteArray) (w : World) (hts : Sl ETok w (fun _ => True) lv ts) (hms : Sl ETok w (fun _ => True) mv ms) (hv : ValAny w) :
    Calls Tryd.prog 7 #[lv, mv, .string key] w fun e w' => e = .returned (.bool true) ∧ Ext w w' := by
  obtain ⟨Ats, cts, rfl, _, _⟩ := hts.shape
  have HL := hid hts
  clear hts
  obtain ⟨Ams, cms, rfl, _, _⟩ := hms.shape
  have HM := hid hms
  clear hms
  have HVA := hid hv
  clear hv
  go_enter Tryd.func7, Tryd.ntmps7
  have hend : ∀ wx, Ext w wx → Calls Tryd.prog 10 #[] wx fun e w' => e = .returned (.bool true) ∧ Ext w w' := fun wx h => (known1_ok w wx HVA.out h).mono fun e w' h2 => ⟨h2.1, h.ext h2.2⟩
  have HEND := hid hend
  clear hend
  have HEW := hid (Keep.refl (fun _ => False) w)
  go_wp2_with fail
  refine (heavy1_ok _ _ _ _ HL.out).mono ?_
  rintro e w1 ⟨bw1, rfl, hb, hE⟩
  clear hb
  replace HL := hid (HL.out.ext ETok.ok hE)
  replace HM := hid (HM.out.ext ETok.ok hE)
  replace HEW := hid (HEW.out.ext hE)
  clear hE
  cases bw1 with
  | true =>
    go_wp2_with fail
    refine (HEND.out _ HEW.out).mono ?_
    rintro e w2 ⟨rfl, hz⟩
    have HZ := hid hz
    clear hz
    go_wp2
    go_ret
    exact ⟨rfl, HZ.out⟩
  | false =>
    go_wp2_with fail
    refine (heavy1_ok _ _ _ _ HM.out).mono ?_
    rintro e w3 ⟨bw3, rfl, hb, hE⟩
    clear hb
    replace HL := hid (HL.out.ext ETok.ok hE)
    replace HM := hid (HM.out.ext ETok.ok hE)
    replace HEW := hid (HEW.out.ext hE)
    clear hE
    cases bw3 with
    | true =>
      go_wp2_with fail
      refine (HEND.out _ HEW.out).mono ?_
      rintro e w4 ⟨rfl, hz⟩
      have HZ := hid hz
      clear hz
      go_wp2
      go_ret
      exact ⟨rfl, HZ.out⟩
    | false =>
      by_cases hkl : (300 : Int) < key.size
      · skip
        go_wp2_with fail
        refine (HEND.out _ HEW.out).mono ?_
        rintro e w5 ⟨rfl, hz⟩
        have HZ := hid hz
        clear hz
        go_wp2
        go_ret
        exact ⟨rfl, HZ.out⟩
      · skip
        go_wp2_with fail
        refine (known1_ok w _ HVA.out HEW.out).mono ?_
        rintro e w6 ⟨rfl, hE⟩
        replace HL := hid (HL.out.ext ETok.ok hE)
        replace HM := hid (HM.out.ext ETok.ok hE)
        replace HEW := hid (HEW.out.ext hE)
        clear hE HEND
        go_wp2_with fail
        refine (build_ok _ _ _ _ HL.out).mono ?_
        rintro e w7 ⟨u, x, rfl, hsv, hsz, ⟨lx, ox, rfl, hlx, hox⟩, hE⟩
        obtain ⟨Ax1, cx1, rfl, _⟩ := hlx.shape
        obtain ⟨Ax2, cx2, rfl, _⟩ := hox.shape
        have HSx := hid (And.intro hsv hsz)
        clear hsv hsz
        have hA : Ext w7 (w7.alloc (.cells #[U8 x.kind, .int .i64 x.n, .string x.s, .slice Ax1 x.l.length cx1, .slice Ax2 x.o.length cx2] TVAL)) := (Keep.refl _ _).alloc _
        replace HL := hid (HL.out.ext ETok.ok (hE.ext hA))
        replace HM := hid (HM.out.ext ETok.ok (hE.ext hA))
        replace HEW := hid (HEW.out.ext (hE.ext hA))
        have HBx := hid (Blk.new w7 TVAL #[U8 x.kind, .int .i64 x.n, .string x.s, .slice Ax1 x.l.length cx1, .slice Ax2 x.o.length cx2])
        have HVx := hid (show VAt (w7.alloc (.cells #[U8 x.kind, .int .i64 x.n, .string x.s, .slice Ax1 x.l.length cx1, .slice Ax2 x.o.length cx2] TVAL)) (fun _ => True) (.agg #[U8 x.kind, .int .i64 x.n, .string x.s, .slice Ax1 x.l.length cx1, .slice Ax2 x.o.length cx2]) x from VAt.ext (VAt.more ⟨_, _, rfl, hlx, hox⟩ fun _ _ _ => trivial) hA)
        clear hA
        clear hlx hox hE
        go_wp2_with fail
        generalize w7.alloc (.cells #[U8 x.kind, .int .i64 x.n, .string x.s, .slice Ax1 x.l.length cx1, .slice Ax2 x.o.length cx2] TVAL) = w8 at *
        refine (build_ok _ _ _ _ HM.out).mono ?_
        rintro e w9 ⟨u, y, rfl, hsv, hsz, ⟨lx, ox, rfl, hlx, hox⟩, hE⟩
        obtain ⟨Ay1, cy1, rfl, _⟩ := hlx.shape
        obtain ⟨Ay2, cy2, rfl, _⟩ := hox.shape
        have HSy := hid (And.intro hsv hsz)
        clear hsv hsz
        have hA : Ext w9 (w9.alloc (.cells #[U8 y.kind, .int .i64 y.n, .string y.s, .slice Ay1 y.l.length cy1, .slice Ay2 y.o.length cy2] TVAL)) := (Keep.refl _ _).alloc _
        replace HL := hid (HL.out.ext ETok.ok (hE.ext hA))
        replace HM := hid (HM.out.ext ETok.ok (hE.ext hA))
        replace HEW := hid (HEW.out.ext (hE.ext hA))
        replace HBx := hid (HBx.out.keep (hE.ext hA) id)
        replace HVx := hid (HVx.out.ext (hE.ext hA))
        have HBy := hid (Blk.new w9 TVAL #[U8 y.kind, .int .i64 y.n, .string y.s, .slice Ay1 y.l.length cy1, .slice Ay2 y.o.length cy2])
        have HVy := hid (show VAt (w9.alloc (.cells #[U8 y.kind, .int .i64 y.n, .string y.s, .slice Ay1 y.l.length cy1, .slice Ay2 y.o.length cy2] TVAL)) (fun _ => True) (.agg #[U8 y.kind, .int .i64 y.n, .string y.s, .slice Ay1 y.l.length cy1, .slice Ay2 y.o.length cy2]) y from VAt.ext (VAt.more ⟨_, _, rfl, hlx, hox⟩ fun _ _ _ => trivial) hA)
        clear hA
        clear hlx hox hE
        obtain ⟨qx0, qx1, qx2, qx3, qx4⟩ := blk5 HBx.out
        obtain ⟨qy0, qy1, qy2, qy3, qy4⟩ := blk5 HBy.out
        go_wp2_with fail
        generalize hgw : w9.alloc (.cells #[U8 y.kind, .int .i64 y.n, .string y.s, .slice Ay1 y.l.length cy1, .slice Ay2 y.o.length cy2] TVAL) = w10 at *
        have hzw : w10.heap.size = w9.heap.size + 1 := by rw [← hgw]; simp
        clear hgw
        have hkp := plain_ok key
        have hka := plain_asc key
        generalize hK : textOf (plainL key) = K at *
        have HPK := hid hkp
        have HKA := hid hka
        clear hkp hka hK
        have HXS := hid (And.intro HSx.out.1 HSx.out.2)
        have HYS := hid (And.intro HSy.out.1 HSy.out.2)
        have hb1 := (Blk.new w10 TVAL #[U8 x.kind, .int .i64 x.n, .string x.s, .slice Ax1 x.l.length cx1, .slice Ax2 x.o.length cx2, U8 y.kind, .int .i64 y.n, .string y.s, .slice Ay1 y.l.length cy1, .slice Ay2 y.o.length cy2]).alloc (.cells #[.int .u8 4, .int .i64 0, .string ⟨#[]⟩, .slice (some ⟨w10.heap.size, 0, none⟩) 2 2, .slice none 0 0] TVAL)
        have hb2 := Blk.new (w10.alloc (.cells #[U8 x.kind, .int .i64 x.n, .string x.s, .slice Ax1 x.l.length cx1, .slice Ax2 x.o.length cx2, U8 y.kind, .int .i64 y.n, .string y.s, .slice Ay1 y.l.length cy1, .slice Ay2 y.o.length cy2] TVAL)) TVAL #[.int .u8 4, .int .i64 0, .string ⟨#[]⟩, .slice (some ⟨w10.heap.size, 0, none⟩) 2 2, .slice none 0 0]
        rw [World.size_alloc] at hb2
        have hX : Ext w10 ((w10.alloc (.cells #[U8 x.kind, .int .i64 x.n, .string x.s, .slice Ax1 x.l.length cx1, .slice Ax2 x.o.length cx2, U8 y.kind, .int .i64 y.n, .string y.s, .slice Ay1 y.l.length cy1, .slice Ay2 y.o.length cy2] TVAL)).alloc (.cells #[.int .u8 4, .int .i64 0, .string ⟨#[]⟩, .slice (some ⟨w10.heap.size, 0, none⟩) 2 2, .slice none 0 0] TVAL)) := ((Keep.refl _ _).alloc _).alloc _
        have HVl := hid (two_at (VAt.ext HVx.out hX) (VAt.ext HVy.out hX) trivial hb1)
        have HBl := hid hb2
        replace HEW := hid (HEW.out.ext hX)
        replace HBx := hid (HBx.out.keep hX id)
        replace HVx := hid (VAt.ext HVx.out hX)
        replace HBy := hid (HBy.out.keep hX id)
        replace HVy := hid (VAt.ext HVy.out hX)
        rw [hzw] at HVl HBl HEW HBx HVx HBy HVy
        obtain ⟨W1, hW1⟩ : ∃ W1, ((w10.alloc (.cells #[U8 x.kind, .int .i64 x.n, .string x.s, .slice Ax1 x.l.length cx1, .slice Ax2 x.o.length cx2, U8 y.kind, .int .i64 y.n, .string y.s, .slice Ay1 y.l.length cy1, .slice Ay2 y.o.length cy2] TVAL)).alloc (.cells #[.int .u8 4, .int .i64 0, .string ⟨#[]⟩, .slice (some ⟨w9.heap.size + 1, 0, none⟩) 2 2, .slice none 0 0] TVAL)) = W1 := ⟨_, rfl⟩
        rw [hW1] at HVl HBl HEW HBx HVx HBy HVy
        clear hb1 hb2 hX hzw qx0 qx1 qx2 qx3 qx4 qy0 qy1 qy2 qy3 qy4 HL HM
        rw [hW1]
        clear hW1
        obtain ⟨qx0, qx1, qx2, qx3, qx4⟩ := blk5 HBx.out
        refine wp_region_parts [0] [1, 2, 3, 4, 5, 6] [7] (specOf [(1, fun v _ => v = .string K), (4, RowMade W1.heap.size TFIELD #[.string K, U8 x.kind, .int .i64 x.n, .string x.s, .slice Ax1 x.l.length cx1, .slice Ax2 x.o.length cx2]), (6, BoxMade W1.heap.size TVAL #[.int .u8 0, .int .i64 0, .string ⟨#[]⟩, .slice none 0 0, .slice none 0 0])]) (fun w' => Ext W1 w')
          (stable_cons (fun v w w' h he => h) (stable_cons (fun v w w' h he => RowMade.ext h he) (stable_cons (fun v w w' h he => BoxMade.ext h he) stable_nil))) (stableC_ext _) (by kernel_rfl) (by kernel_rfl) (Keep.drew (Keep.refl _ _)) ?_
        iterate 1
          (try simp only [Act.put, List.setIfInBounds_toArray, List.set_cons_zero, List.set_cons_succ])
          refine pure_run rfl rfl ?_
          apply Exists.intro
          refine ⟨fun w' => ?_, ?_⟩
          · go_simp
            rfl
        refine pure_nil ?_
        (try simp only [Act.put, List.setIfInBounds_toArray, List.set_cons_zero, List.set_cons_succ])
        refine growP_eff rfl rfl rfl (fun w' hC hK => ?_) (fun v1 hv1 => ?_)
        · unfold growAt
          go_simp
          refine grow_call ((HPK.out w').mono ?_)
          rintro e w'' ⟨rfl, h1⟩
          exact ⟨_, rfl, h1, rfl⟩
        obtain ⟨_, _, rfl⟩ := hv1.head
        iterate 2
          (try simp only [Act.put, List.setIfInBounds_toArray, List.set_cons_zero, List.set_cons_succ])
          refine growP_run rfl rfl rfl ?_
          apply Exists.intro
          refine ⟨fun w' hC hK => ?_, ?_⟩
          · have qx0 := (hC.cell (lt_of_cell qx0) id).trans qx0
            have qx1 := (hC.cell (lt_of_cell qx1) id).trans qx1
            have qx2 := (hC.cell (lt_of_cell qx2) id).trans qx2
            have qx3 := (hC.cell (lt_of_cell qx3) id).trans qx3
            have qx4 := (hC.cell (lt_of_cell qx4) id).trans qx4
            go_simp
            rfl
        (try simp only [Act.put, List.setIfInBounds_toArray, List.set_cons_zero, List.set_cons_succ])
        refine growP_eff rfl rfl rfl (fun w' hC hK => ?_) (fun v4 hv4 => ?_)
        · unfold growAt
          go_simp
          exact ⟨(Keep.refl _ _).alloc _, _, rfl, hC.size, Blk.new _ _ _⟩
        obtain ⟨_, _, n4, rfl, _⟩ := hv4.head
        iterate 1
          (try simp only [Act.put, List.setIfInBounds_toArray, List.set_cons_zero, List.set_cons_succ])
          refine growP_run rfl rfl rfl ?_
          apply Exists.intro
          refine ⟨fun w' hC hK => ?_, ?_⟩
          · go_simp
            rfl
        (try simp only [Act.put, List.setIfInBounds_toArray, List.set_cons_zero, List.set_cons_succ])
        refine growP_eff rfl rfl rfl (fun w' hC hK => ?_) (fun v6 hv6 => ?_)
        · unfold growAt
          go_simp
          exact ⟨(Keep.refl _ _).alloc _, _, rfl, hC.size, Blk.new _ _ _⟩
        obtain ⟨_, _, n6, rfl, _⟩ := hv6.head
        refine growP_nil fun wq hC hK => ?_
        have hC : Ext W1 wq := hC
        obtain ⟨n4', e4, hn4, hb4⟩ : RowMade W1.heap.size TFIELD #[.string K, U8 x.kind, .int .i64 x.n, .string x.s, .slice Ax1 x.l.length cx1, .slice Ax2 x.o.length cx2] (.slice (some ⟨n4, 0, none⟩) 1 1) wq := hK (4, _) (List.mem_cons_of_mem _ List.mem_cons_self)
        obtain ⟨n6', e6, hn6, hb6⟩ : BoxMade W1.heap.size TVAL #[.int .u8 0, .int .i64 0, .string ⟨#[]⟩, .slice none 0 0, .slice none 0 0] (.pointer (some ⟨n6, 0, none⟩)) wq := hK (6, _) List.mem_cons_self
        obtain rfl : n4 = n4' := by injection e4 with e4 _ _; injection e4 with e4; injection e4
        obtain rfl : n6 = n6' := by injection e6 with e6; injection e6 with e6; injection e6
        have hne : n4 ≠ n6 := hb4.ne_ hb6 (by decide)
        have hk5 := set5_keep wq n6 0 (.int .u8 5) (.int .i64 0) (.string ⟨#[]⟩) (.slice none 0 0) (.slice (some ⟨n4, 0, none⟩) 1 1)
        have hXf : Ext W1 (set5 wq n6 0 (.int .u8 5) (.int .i64 0) (.string ⟨#[]⟩) (.slice none 0 0) (.slice (some ⟨n4, 0, none⟩) 1 1)) := hC.trans hk5 fun k hk e => by omega
        have HBo := hid (set5_to hb6 rfl (.int .u8 5) (.int .i64 0) (.string ⟨#[]⟩) (.slice none 0 0) (.slice (some ⟨n4, 0, none⟩) 1 1))
        have HVo := hid (one_at (VAt.ext HVx.out hXf) trivial (hb4.keep hk5 (fun e => hne e)))
        replace HEW := hid (HEW.out.ext hXf)
        replace HBx := hid (HBx.out.keep hXf id)
        replace HVx := hid (VAt.ext HVx.out hXf)
        replace HBy := hid (HBy.out.keep hXf id)
        replace HVy := hid (VAt.ext HVy.out hXf)
        replace HBl := hid (HBl.out.keep hXf id)
        replace HVl := hid (VAt.ext HVl.out hXf)
        obtain ⟨r0, r1, r2, r3, r4⟩ := blk5 hb6
        have f0 := hb6.frozen 0
        have f1 := hb6.frozen 1
        have f2 := hb6.frozen 2
        have f3 := hb6.frozen 3
        have f4 := hb6.frozen 4
        clear hC hK e4 e6 hn4 hn6 hb4 hb6 hne hk5 hXf hv1 hv4 hv6 qx0 qx1 qx2 qx3 qx4
        change wpList _ _ _ (_ :: []) _ _
        (try simp only [Act.put, List.setIfInBounds_toArray, List.set_cons_zero, List.set_cons_succ])
        go_wp2
        refine NoPanic.normal ?_
        change Exit.then _ _ Exit.normal _ (set5 wq n6 0 (.int .u8 5) (.int .i64 0) (.string ⟨#[]⟩) (.slice none 0 0) (.slice (some ⟨n4, 0, none⟩) 1 1))
        generalize set5 wq n6 0 (.int .u8 5) (.int .i64 0) (.string ⟨#[]⟩) (.slice none 0 0) (.slice (some ⟨n4, 0, none⟩) 1 1) = w11 at *
        clear r0 r1 r2 r3 r4 f0 f1 f2 f3 f4
        have HLS := hid (list_sv HXS.out.1 HYS.out.1)
        have HOS := hid (obj_sv HXS.out.1 HKA.out)
        obtain ⟨qx0, qx1, qx2, qx3, qx4⟩ := blk5 HBx.out
        go_wp2_with fail
        refine (sound_any w HVA.out _ x (Nat.le_refl _) (SV.big HXS.out.1) _ _ _ HEW.out HVx.out).mono ?_
        rw [SV.snd _ HXS.out.1]
        rintro e w12 ⟨rfl, hE⟩
        replace HEW := hid (HEW.out.ext hE)
        replace HBx := hid (HBx.out.keep hE id)
        replace HBy := hid (HBy.out.keep hE id)
        replace HBl := hid (HBl.out.keep hE id)
        replace HBo := hid (HBo.out.keep hE id)
        replace HVx := hid (HVx.out.ext hE)
        replace HVy := hid (HVy.out.ext hE)
        replace HVl := hid (HVl.out.ext hE)
        replace HVo := hid (HVo.out.ext hE)
        clear hE
        clear qx0 qx1 qx2 qx3 qx4
        obtain ⟨qy0, qy1, qy2, qy3, qy4⟩ := blk5 HBy.out
        go_wp2_with fail
        refine (sound_any w HVA.out _ y (Nat.le_refl _) (SV.big HYS.out.1) _ _ _ HEW.out HVy.out).mono ?_
        rw [SV.snd _ HYS.out.1]
        rintro e w13 ⟨rfl, hE⟩
        replace HEW := hid (HEW.out.ext hE)
        replace HBx := hid (HBx.out.keep hE id)
        replace HBy := hid (HBy.out.keep hE id)
        replace HBl := hid (HBl.out.keep hE id)
        replace HBo := hid (HBo.out.keep hE id)
        replace HVx := hid (HVx.out.ext hE)
        replace HVy := hid (HVy.out.ext hE)
        replace HVl := hid (HVl.out.ext hE)
        replace HVo := hid (HVo.out.ext hE)
        clear hE
        clear qy0 qy1 qy2 qy3 qy4
        obtain ⟨ql0, ql1, ql2, ql3, ql4⟩ := blk5 HBl.out
        go_wp2_with fail
        refine (sound_any w HVA.out _ (.mk 4 0 ⟨#[]⟩ [x, y] []) (Nat.le_refl _) (SV.big HLS.out) _ _ _ HEW.out HVl.out).mono ?_
        rw [SV.snd _ HLS.out]
        rintro e w14 ⟨rfl, hE⟩
        replace HEW := hid (HEW.out.ext hE)
        replace HBx := hid (HBx.out.keep hE id)
        replace HBy := hid (HBy.out.keep hE id)
        replace HBl := hid (HBl.out.keep hE id)
        replace HBo := hid (HBo.out.keep hE id)
        replace HVx := hid (HVx.out.ext hE)
        replace HVy := hid (HVy.out.ext hE)
        replace HVl := hid (HVl.out.ext hE)
        replace HVo := hid (HVo.out.ext hE)
        clear hE
        clear ql0 ql1 ql2 ql3 ql4
        obtain ⟨qo0, qo1, qo2, qo3, qo4⟩ := blk5 HBo.out
        go_wp2_with fail
        refine (sound_any w HVA.out _ (.mk 5 0 ⟨#[]⟩ [] [.mk K x]) (Nat.le_refl _) (SV.big HOS.out) _ _ _ HEW.out HVo.out).mono ?_
        rw [SV.snd _ HOS.out]
        rintro e w15 ⟨rfl, hE⟩
        replace HEW := hid (HEW.out.ext hE)
        replace HBx := hid (HBx.out.keep hE id)
        replace HBy := hid (HBy.out.keep hE id)
        replace HBl := hid (HBl.out.keep hE id)
        replace HBo := hid (HBo.out.keep hE id)
        replace HVx := hid (HVx.out.ext hE)
        replace HVy := hid (HVy.out.ext hE)
        replace HVl := hid (HVl.out.ext hE)
        replace HVo := hid (HVo.out.ext hE)
        clear hE
        clear qo0 qo1 qo2 qo3 qo4
        have hwx : (x.weight : Int) ≤ 601000 := by have := weight_small HXS.out.1 (by have := HXS.out.2; omega); omega
        have hwy : (y.weight : Int) ≤ 601000 := by have := weight_small HYS.out.1 (by have := HYS.out.2; omega); omega
        have hwk : (K.size : Int) ≤ 300 := by have := HKA.out.2; omega
        have hdx : (x.deep : Int) ≤ 241 := by have := V.deep_lt x; have := HXS.out.2; omega
        have hdy : (y.deep : Int) ≤ 241 := by have := V.deep_lt y; have := HYS.out.2; omega
        have HWX := hid (show wrap64 x.weight = x.weight from by unfold wrap64; omega)
        have HWY := hid (show wrap64 y.weight = y.weight from by unfold wrap64; omega)
        have HWL := hid (show wrap64 (V.weight (.mk 4 0 ⟨#[]⟩ [x, y] [])) = 1 + (x.weight : Int) + y.weight from by
          have e : V.weight (.mk 4 0 ⟨#[]⟩ [x, y] []) = 1 + x.weight + y.weight := by simp [V.weight, V.weights, F.weights, ByteArray.size]; omega
          rw [e]; unfold wrap64; omega)
        have HWO := hid (show wrap64 (V.weight (.mk 5 0 ⟨#[]⟩ [] [.mk K x])) = 1 + (K.size : Int) + x.weight from by
          have e : V.weight (.mk 5 0 ⟨#[]⟩ [] [.mk K x]) = 1 + K.size + x.weight := by
            rw [V.weight_eq]; show 1 + 0 + (V.weights [] + F.weights [F.mk K x]) = _
            rw [F.weights_one, F.weight_eq, V.weights]; show 1 + 0 + (0 + (K.size + x.weight)) = _; omega
          rw [e]; unfold wrap64; omega)
        have HDO := hid (show (V.deep (.mk 5 0 ⟨#[]⟩ [] [.mk K x]) : Int) = 1 + (x.deep : Int) from by
          have e : V.deep (.mk 5 0 ⟨#[]⟩ [] [.mk K x]) = 1 + x.deep := by simp [V.deep, V.deeps, F.deeps, F.deep]; omega
          rw [e]; omega)
        have HLZ := hid (show V.size (.mk 4 0 ⟨#[]⟩ [x, y] []) ≤ 1000 from by have := HXS.out.2; have := HYS.out.2; simp [V.size, V.sizes, F.sizes]; omega)
        have HOZ := hid (show V.size (.mk 5 0 ⟨#[]⟩ [] [.mk K x]) ≤ 1000 from by have := HXS.out.2; simp [V.size, V.sizes, F.sizes, F.size]; omega)
        have h8 : ((1 + (x.weight : Int) + y.weight) == IntKind.i64.wrap (IntKind.i64.wrap (1 + (x.weight : Int)) + y.weight)) = true := by
          rw [IntWalk.i64_in (1 + (x.weight : Int)) (by omega), IntWalk.i64_in _ (by omega)]; simp
        have h8b : ((1 + (K.size : Int) + x.weight) == IntKind.i64.wrap (IntKind.i64.wrap (1 + (K.size : Int)) + x.weight)) = true := by
          rw [IntWalk.i64_in (1 + (K.size : Int)) (by omega), IntWalk.i64_in _ (by omega)]; simp
        obtain ⟨qx0, qx1, qx2, qx3, qx4⟩ := blk5 HBx.out
        obtain ⟨qy0, qy1, qy2, qy3, qy4⟩ := blk5 HBy.out
        obtain ⟨ql0, ql1, ql2, ql3, ql4⟩ := blk5 HBl.out
        obtain ⟨qo0, qo1, qo2, qo3, qo4⟩ := blk5 HBo.out
        go_wp2_with fail
        refine wp_region_grow (specOf [(1, fun v _ => v = .int .i64 (1 + (x.weight : Int) + y.weight)), (3, fun v _ => v = .int .i64 x.weight), (6, fun v _ => v = .int .i64 y.weight), (11, fun v _ => v = .int .i64 (1 + (K.size : Int) + x.weight)), (13, fun v _ => v = .string K), (17, fun v _ => v = .int .i64 x.weight)]) (fun w' => Ext w15 w') (stable_cons (fun v w w' h he => h) (stable_cons (fun v w w' h he => h) (stable_cons (fun v w w' h he => h) (stable_cons (fun v w w' h he => h) (stable_cons (fun v w w' h he => h) (stable_cons (fun v w w' h he => h) stable_nil)))))) (stableC_ext _) (by kernel_rfl) (by kernel_rfl) (Keep.drew (Keep.refl _ _)) ?_
        iterate 1
          (try simp only [Act.put, List.setIfInBounds_toArray, List.set_cons_zero, List.set_cons_succ])
          refine grow_run rfl rfl rfl ?_
          apply Exists.intro
          refine ⟨fun w' hC hK => ?_, ?_⟩
          · have qx0 := (hC.cell (lt_of_cell qx0) id).trans qx0
            have qx1 := (hC.cell (lt_of_cell qx1) id).trans qx1
            have qx2 := (hC.cell (lt_of_cell qx2) id).trans qx2
            have qx3 := (hC.cell (lt_of_cell qx3) id).trans qx3
            have qx4 := (hC.cell (lt_of_cell qx4) id).trans qx4
            have qy0 := (hC.cell (lt_of_cell qy0) id).trans qy0
            have qy1 := (hC.cell (lt_of_cell qy1) id).trans qy1
            have qy2 := (hC.cell (lt_of_cell qy2) id).trans qy2
            have qy3 := (hC.cell (lt_of_cell qy3) id).trans qy3
            have qy4 := (hC.cell (lt_of_cell qy4) id).trans qy4
            have ql0 := (hC.cell (lt_of_cell ql0) id).trans ql0
            have ql1 := (hC.cell (lt_of_cell ql1) id).trans ql1
            have ql2 := (hC.cell (lt_of_cell ql2) id).trans ql2
            have ql3 := (hC.cell (lt_of_cell ql3) id).trans ql3
            have ql4 := (hC.cell (lt_of_cell ql4) id).trans ql4
            have qo0 := (hC.cell (lt_of_cell qo0) id).trans qo0
            have qo1 := (hC.cell (lt_of_cell qo1) id).trans qo1
            have qo2 := (hC.cell (lt_of_cell qo2) id).trans qo2
            have qo3 := (hC.cell (lt_of_cell qo3) id).trans qo3
            have qo4 := (hC.cell (lt_of_cell qo4) id).trans qo4
            go_simp
            rfl
        (try simp only [Act.put, List.setIfInBounds_toArray, List.set_cons_zero, List.set_cons_succ])
        refine grow_eff rfl rfl rfl (fun w' hC hK => ?_) (fun v1 hv1 => ?_)
        · unfold growAt
          go_simp
          refine grow_call (((weight_any _ (.mk 4 0 ⟨#[]⟩ [x, y] []) (Nat.le_refl _) _ _ _ (VAt.ext HVl.out hC)).mono (fun e w' h => by rw [HWL.out] at h; exact h)).mono ?_)
          rintro e w'' ⟨rfl, h1⟩
          exact ⟨_, rfl, h1, rfl⟩
        obtain ⟨_, _, rfl⟩ := hv1.head
        iterate 1
          (try simp only [Act.put, List.setIfInBounds_toArray, List.set_cons_zero, List.set_cons_succ])
          refine grow_run rfl rfl rfl ?_
          apply Exists.intro
          refine ⟨fun w' hC hK => ?_, ?_⟩
          · have qx0 := (hC.cell (lt_of_cell qx0) id).trans qx0
            have qx1 := (hC.cell (lt_of_cell qx1) id).trans qx1
            have qx2 := (hC.cell (lt_of_cell qx2) id).trans qx2
            have qx3 := (hC.cell (lt_of_cell qx3) id).trans qx3
            have qx4 := (hC.cell (lt_of_cell qx4) id).trans qx4
            have qy0 := (hC.cell (lt_of_cell qy0) id).trans qy0
            have qy1 := (hC.cell (lt_of_cell qy1) id).trans qy1
            have qy2 := (hC.cell (lt_of_cell qy2) id).trans qy2
            have qy3 := (hC.cell (lt_of_cell qy3) id).trans qy3
            have qy4 := (hC.cell (lt_of_cell qy4) id).trans qy4
            have ql0 := (hC.cell (lt_of_cell ql0) id).trans ql0
            have ql1 := (hC.cell (lt_of_cell ql1) id).trans ql1
            have ql2 := (hC.cell (lt_of_cell ql2) id).trans ql2
            have ql3 := (hC.cell (lt_of_cell ql3) id).trans ql3
            have ql4 := (hC.cell (lt_of_cell ql4) id).trans ql4
            have qo0 := (hC.cell (lt_of_cell qo0) id).trans qo0
            have qo1 := (hC.cell (lt_of_cell qo1) id).trans qo1
            have qo2 := (hC.cell (lt_of_cell qo2) id).trans qo2
            have qo3 := (hC.cell (lt_of_cell qo3) id).trans qo3
            have qo4 := (hC.cell (lt_of_cell qo4) id).trans qo4
            go_simp
            rfl
        (try simp only [Act.put, List.setIfInBounds_toArray, List.set_cons_zero, List.set_cons_succ])
        refine grow_eff rfl rfl rfl (fun w' hC hK => ?_) (fun v3 hv3 => ?_)
        · unfold growAt
          go_simp
          refine grow_call (((weight_any _ x (Nat.le_refl _) _ _ _ (VAt.ext HVx.out hC)).mono (fun e w' h => by rw [HWX.out] at h; exact h)).mono ?_)
          rintro e w'' ⟨rfl, h1⟩
          exact ⟨_, rfl, h1, rfl⟩
        obtain ⟨_, _, rfl⟩ := hv3.head
        iterate 2
          (try simp only [Act.put, List.setIfInBounds_toArray, List.set_cons_zero, List.set_cons_succ])
          refine grow_run rfl rfl rfl ?_
          apply Exists.intro
          refine ⟨fun w' hC hK => ?_, ?_⟩
          · have qx0 := (hC.cell (lt_of_cell qx0) id).trans qx0
            have qx1 := (hC.cell (lt_of_cell qx1) id).trans qx1
            have qx2 := (hC.cell (lt_of_cell qx2) id).trans qx2
            have qx3 := (hC.cell (lt_of_cell qx3) id).trans qx3
            have qx4 := (hC.cell (lt_of_cell qx4) id).trans qx4
            have qy0 := (hC.cell (lt_of_cell qy0) id).trans qy0
            have qy1 := (hC.cell (lt_of_cell qy1) id).trans qy1
            have qy2 := (hC.cell (lt_of_cell qy2) id).trans qy2
            have qy3 := (hC.cell (lt_of_cell qy3) id).trans qy3
            have qy4 := (hC.cell (lt_of_cell qy4) id).trans qy4
            have ql0 := (hC.cell (lt_of_cell ql0) id).trans ql0
            have ql1 := (hC.cell (lt_of_cell ql1) id).trans ql1
            have ql2 := (hC.cell (lt_of_cell ql2) id).trans ql2
            have ql3 := (hC.cell (lt_of_cell ql3) id).trans ql3
            have ql4 := (hC.cell (lt_of_cell ql4) id).trans ql4
            have qo0 := (hC.cell (lt_of_cell qo0) id).trans qo0
            have qo1 := (hC.cell (lt_of_cell qo1) id).trans qo1
            have qo2 := (hC.cell (lt_of_cell qo2) id).trans qo2
            have qo3 := (hC.cell (lt_of_cell qo3) id).trans qo3
            have qo4 := (hC.cell (lt_of_cell qo4) id).trans qo4
            go_simp
            rfl
        (try simp only [Act.put, List.setIfInBounds_toArray, List.set_cons_zero, List.set_cons_succ])
        refine grow_eff rfl rfl rfl (fun w' hC hK => ?_) (fun v6 hv6 => ?_)
        · unfold growAt
          go_simp
          refine grow_call (((weight_any _ y (Nat.le_refl _) _ _ _ (VAt.ext HVy.out hC)).mono (fun e w' h => by rw [HWY.out] at h; exact h)).mono ?_)
          rintro e w'' ⟨rfl, h1⟩
          exact ⟨_, rfl, h1, rfl⟩
        obtain ⟨_, _, rfl⟩ := hv6.head
        iterate 4
          (try simp only [Act.put, List.setIfInBounds_toArray, List.set_cons_zero, List.set_cons_succ])
          refine grow_run rfl rfl rfl ?_
          apply Exists.intro
          refine ⟨fun w' hC hK => ?_, ?_⟩
          · have qx0 := (hC.cell (lt_of_cell qx0) id).trans qx0
            have qx1 := (hC.cell (lt_of_cell qx1) id).trans qx1
            have qx2 := (hC.cell (lt_of_cell qx2) id).trans qx2
            have qx3 := (hC.cell (lt_of_cell qx3) id).trans qx3
            have qx4 := (hC.cell (lt_of_cell qx4) id).trans qx4
            have qy0 := (hC.cell (lt_of_cell qy0) id).trans qy0
            have qy1 := (hC.cell (lt_of_cell qy1) id).trans qy1
            have qy2 := (hC.cell (lt_of_cell qy2) id).trans qy2
            have qy3 := (hC.cell (lt_of_cell qy3) id).trans qy3
            have qy4 := (hC.cell (lt_of_cell qy4) id).trans qy4
            have ql0 := (hC.cell (lt_of_cell ql0) id).trans ql0
            have ql1 := (hC.cell (lt_of_cell ql1) id).trans ql1
            have ql2 := (hC.cell (lt_of_cell ql2) id).trans ql2
            have ql3 := (hC.cell (lt_of_cell ql3) id).trans ql3
            have ql4 := (hC.cell (lt_of_cell ql4) id).trans ql4
            have qo0 := (hC.cell (lt_of_cell qo0) id).trans qo0
            have qo1 := (hC.cell (lt_of_cell qo1) id).trans qo1
            have qo2 := (hC.cell (lt_of_cell qo2) id).trans qo2
            have qo3 := (hC.cell (lt_of_cell qo3) id).trans qo3
            have qo4 := (hC.cell (lt_of_cell qo4) id).trans qo4
            go_simp
            rfl
        (try simp only [Act.put, List.setIfInBounds_toArray, List.set_cons_zero, List.set_cons_succ])
        refine grow_eff rfl rfl rfl (fun w' hC hK => ?_) (fun v11 hv11 => ?_)
        · unfold growAt
          go_simp
          refine grow_call (((weight_any _ (.mk 5 0 ⟨#[]⟩ [] [.mk K x]) (Nat.le_refl _) _ _ _ (VAt.ext HVo.out hC)).mono (fun e w' h => by rw [HWO.out] at h; exact h)).mono ?_)
          rintro e w'' ⟨rfl, h1⟩
          exact ⟨_, rfl, h1, rfl⟩
        obtain ⟨_, _, rfl⟩ := hv11.head
        iterate 1
          (try simp only [Act.put, List.setIfInBounds_toArray, List.set_cons_zero, List.set_cons_succ])
          refine grow_run rfl rfl rfl ?_
          apply Exists.intro
          refine ⟨fun w' hC hK => ?_, ?_⟩
          · have qx0 := (hC.cell (lt_of_cell qx0) id).trans qx0
            have qx1 := (hC.cell (lt_of_cell qx1) id).trans qx1
            have qx2 := (hC.cell (lt_of_cell qx2) id).trans qx2
            have qx3 := (hC.cell (lt_of_cell qx3) id).trans qx3
            have qx4 := (hC.cell (lt_of_cell qx4) id).trans qx4
            have qy0 := (hC.cell (lt_of_cell qy0) id).trans qy0
            have qy1 := (hC.cell (lt_of_cell qy1) id).trans qy1
            have qy2 := (hC.cell (lt_of_cell qy2) id).trans qy2
            have qy3 := (hC.cell (lt_of_cell qy3) id).trans qy3
            have qy4 := (hC.cell (lt_of_cell qy4) id).trans qy4
            have ql0 := (hC.cell (lt_of_cell ql0) id).trans ql0
            have ql1 := (hC.cell (lt_of_cell ql1) id).trans ql1
            have ql2 := (hC.cell (lt_of_cell ql2) id).trans ql2
            have ql3 := (hC.cell (lt_of_cell ql3) id).trans ql3
            have ql4 := (hC.cell (lt_of_cell ql4) id).trans ql4
            have qo0 := (hC.cell (lt_of_cell qo0) id).trans qo0
            have qo1 := (hC.cell (lt_of_cell qo1) id).trans qo1
            have qo2 := (hC.cell (lt_of_cell qo2) id).trans qo2
            have qo3 := (hC.cell (lt_of_cell qo3) id).trans qo3
            have qo4 := (hC.cell (lt_of_cell qo4) id).trans qo4
            go_simp
            rfl
        (try simp only [Act.put, List.setIfInBounds_toArray, List.set_cons_zero, List.set_cons_succ])
        refine grow_eff rfl rfl rfl (fun w' hC hK => ?_) (fun v13 hv13 => ?_)
        · unfold growAt
          go_simp
          refine grow_call ((HPK.out w').mono ?_)
          rintro e w'' ⟨rfl, h1⟩
          exact ⟨_, rfl, h1, rfl⟩
        obtain ⟨_, _, rfl⟩ := hv13.head
        iterate 3
          (try simp only [Act.put, List.setIfInBounds_toArray, List.set_cons_zero, List.set_cons_succ])
          refine grow_run rfl rfl rfl ?_
          apply Exists.intro
          refine ⟨fun w' hC hK => ?_, ?_⟩
          · have qx0 := (hC.cell (lt_of_cell qx0) id).trans qx0
            have qx1 := (hC.cell (lt_of_cell qx1) id).trans qx1
            have qx2 := (hC.cell (lt_of_cell qx2) id).trans qx2
            have qx3 := (hC.cell (lt_of_cell qx3) id).trans qx3
            have qx4 := (hC.cell (lt_of_cell qx4) id).trans qx4
            have qy0 := (hC.cell (lt_of_cell qy0) id).trans qy0
            have qy1 := (hC.cell (lt_of_cell qy1) id).trans qy1
            have qy2 := (hC.cell (lt_of_cell qy2) id).trans qy2
            have qy3 := (hC.cell (lt_of_cell qy3) id).trans qy3
            have qy4 := (hC.cell (lt_of_cell qy4) id).trans qy4
            have ql0 := (hC.cell (lt_of_cell ql0) id).trans ql0
            have ql1 := (hC.cell (lt_of_cell ql1) id).trans ql1
            have ql2 := (hC.cell (lt_of_cell ql2) id).trans ql2
            have ql3 := (hC.cell (lt_of_cell ql3) id).trans ql3
            have ql4 := (hC.cell (lt_of_cell ql4) id).trans ql4
            have qo0 := (hC.cell (lt_of_cell qo0) id).trans qo0
            have qo1 := (hC.cell (lt_of_cell qo1) id).trans qo1
            have qo2 := (hC.cell (lt_of_cell qo2) id).trans qo2
            have qo3 := (hC.cell (lt_of_cell qo3) id).trans qo3
            have qo4 := (hC.cell (lt_of_cell qo4) id).trans qo4
            go_simp
            rfl
        (try simp only [Act.put, List.setIfInBounds_toArray, List.set_cons_zero, List.set_cons_succ])
        refine grow_eff rfl rfl rfl (fun w' hC hK => ?_) (fun v17 hv17 => ?_)
        · unfold growAt
          go_simp
          refine grow_call (((weight_any _ x (Nat.le_refl _) _ _ _ (VAt.ext HVx.out hC)).mono (fun e w' h => by rw [HWX.out] at h; exact h)).mono ?_)
          rintro e w'' ⟨rfl, h1⟩
          exact ⟨_, rfl, h1, rfl⟩
        obtain ⟨_, _, rfl⟩ := hv17.head
        iterate 4
          (try simp only [Act.put, List.setIfInBounds_toArray, List.set_cons_zero, List.set_cons_succ])
          refine grow_run rfl rfl rfl ?_
          apply Exists.intro
          refine ⟨fun w' hC hK => ?_, ?_⟩
          · have qx0 := (hC.cell (lt_of_cell qx0) id).trans qx0
            have qx1 := (hC.cell (lt_of_cell qx1) id).trans qx1
            have qx2 := (hC.cell (lt_of_cell qx2) id).trans qx2
            have qx3 := (hC.cell (lt_of_cell qx3) id).trans qx3
            have qx4 := (hC.cell (lt_of_cell qx4) id).trans qx4
            have qy0 := (hC.cell (lt_of_cell qy0) id).trans qy0
            have qy1 := (hC.cell (lt_of_cell qy1) id).trans qy1
            have qy2 := (hC.cell (lt_of_cell qy2) id).trans qy2
            have qy3 := (hC.cell (lt_of_cell qy3) id).trans qy3
            have qy4 := (hC.cell (lt_of_cell qy4) id).trans qy4
            have ql0 := (hC.cell (lt_of_cell ql0) id).trans ql0
            have ql1 := (hC.cell (lt_of_cell ql1) id).trans ql1
            have ql2 := (hC.cell (lt_of_cell ql2) id).trans ql2
            have ql3 := (hC.cell (lt_of_cell ql3) id).trans ql3
            have ql4 := (hC.cell (lt_of_cell ql4) id).trans ql4
            have qo0 := (hC.cell (lt_of_cell qo0) id).trans qo0
            have qo1 := (hC.cell (lt_of_cell qo1) id).trans qo1
            have qo2 := (hC.cell (lt_of_cell qo2) id).trans qo2
            have qo3 := (hC.cell (lt_of_cell qo3) id).trans qo3
            have qo4 := (hC.cell (lt_of_cell qo4) id).trans qo4
            go_simp
            rfl
        refine grow_nil fun w16 hC _ => ?_
        have hC : Ext w15 w16 := hC
        replace HEW := hid (HEW.out.ext hC)
        replace HBx := hid (HBx.out.keep hC id)
        replace HBy := hid (HBy.out.keep hC id)
        replace HBl := hid (HBl.out.keep hC id)
        replace HBo := hid (HBo.out.keep hC id)
        replace HVx := hid (HVx.out.ext hC)
        replace HVy := hid (HVy.out.ext hC)
        replace HVl := hid (HVl.out.ext hC)
        replace HVo := hid (HVo.out.ext hC)
        clear hC qx0 qx1 qx2 qx3 qx4 qy0 qy1 qy2 qy3 qy4 ql0 ql1 ql2 ql3 ql4 qo0 qo1 qo2 qo3 qo4
        clear h8 h8b
        have HDL := hid (show (V.deep (.mk 4 0 ⟨#[]⟩ [x, y] []) : Int) = 1 + max (x.deep : Int) y.deep from by
          have e : V.deep (.mk 4 0 ⟨#[]⟩ [x, y] []) = 1 + max x.deep y.deep := by simp [V.deep, V.deeps, F.deeps]; omega
          rw [e]; omega)
        have h9 : ((1 + max (x.deep : Int) y.deep) == IntKind.i64.wrap (1 + max (x.deep : Int) y.deep)) = true := by rw [IntWalk.i64_in _ (by omega)]; simp
        have h9b : ((1 + (x.deep : Int)) == IntKind.i64.wrap (1 + (x.deep : Int))) = true := by rw [IntWalk.i64_in _ (by omega)]; simp
        obtain ⟨qx0, qx1, qx2, qx3, qx4⟩ := blk5 HBx.out
        obtain ⟨qy0, qy1, qy2, qy3, qy4⟩ := blk5 HBy.out
        obtain ⟨ql0, ql1, ql2, ql3, ql4⟩ := blk5 HBl.out
        obtain ⟨qo0, qo1, qo2, qo3, qo4⟩ := blk5 HBo.out
        go_wp2_with fail
        refine wp_region_grow (specOf [(6, fun v _ => v = .int .i64 (1 + max (x.deep : Int) y.deep)), (8, fun v _ => v = .int .i64 x.deep), (10, fun v _ => v = .int .i64 y.deep), (17, fun v _ => v = .int .i64 (1 + (x.deep : Int))), (19, fun v _ => v = .int .i64 x.deep)]) (fun w' => Ext w16 w') (stable_cons (fun v w w' h he => h) (stable_cons (fun v w w' h he => h) (stable_cons (fun v w w' h he => h) (stable_cons (fun v w w' h he => h) (stable_cons (fun v w w' h he => h) stable_nil))))) (stableC_ext _) (by kernel_rfl) (by kernel_rfl) (Keep.drew (Keep.refl _ _)) ?_
        iterate 6
          (try simp only [Act.put, List.setIfInBounds_toArray, List.set_cons_zero, List.set_cons_succ])
          refine grow_run rfl rfl rfl ?_
          apply Exists.intro
          refine ⟨fun w' hC hK => ?_, ?_⟩
          · have qx0 := (hC.cell (lt_of_cell qx0) id).trans qx0
            have qx1 := (hC.cell (lt_of_cell qx1) id).trans qx1
            have qx2 := (hC.cell (lt_of_cell qx2) id).trans qx2
            have qx3 := (hC.cell (lt_of_cell qx3) id).trans qx3
            have qx4 := (hC.cell (lt_of_cell qx4) id).trans qx4
            have qy0 := (hC.cell (lt_of_cell qy0) id).trans qy0
            have qy1 := (hC.cell (lt_of_cell qy1) id).trans qy1
            have qy2 := (hC.cell (lt_of_cell qy2) id).trans qy2
            have qy3 := (hC.cell (lt_of_cell qy3) id).trans qy3
            have qy4 := (hC.cell (lt_of_cell qy4) id).trans qy4
            have ql0 := (hC.cell (lt_of_cell ql0) id).trans ql0
            have ql1 := (hC.cell (lt_of_cell ql1) id).trans ql1
            have ql2 := (hC.cell (lt_of_cell ql2) id).trans ql2
            have ql3 := (hC.cell (lt_of_cell ql3) id).trans ql3
            have ql4 := (hC.cell (lt_of_cell ql4) id).trans ql4
            have qo0 := (hC.cell (lt_of_cell qo0) id).trans qo0
            have qo1 := (hC.cell (lt_of_cell qo1) id).trans qo1
            have qo2 := (hC.cell (lt_of_cell qo2) id).trans qo2
            have qo3 := (hC.cell (lt_of_cell qo3) id).trans qo3
            have qo4 := (hC.cell (lt_of_cell qo4) id).trans qo4
            go_simp
            rfl
        (try simp only [Act.put, List.setIfInBounds_toArray, List.set_cons_zero, List.set_cons_succ])
        refine grow_eff rfl rfl rfl (fun w' hC hK => ?_) (fun v6 hv6 => ?_)
        · unfold growAt
          go_simp
          refine grow_call (((deep_any _ (.mk 4 0 ⟨#[]⟩ [x, y] []) (Nat.le_refl _) (by have := HLZ.out; omega) _ _ _ (VAt.ext HVl.out hC)).mono (fun e w' h => by rw [HDL.out] at h; exact h)).mono ?_)
          rintro e w'' ⟨rfl, h1⟩
          exact ⟨_, rfl, h1, rfl⟩
        obtain ⟨_, _, rfl⟩ := hv6.head
        iterate 1
          (try simp only [Act.put, List.setIfInBounds_toArray, List.set_cons_zero, List.set_cons_succ])
          refine grow_run rfl rfl rfl ?_
          apply Exists.intro
          refine ⟨fun w' hC hK => ?_, ?_⟩
          · have qx0 := (hC.cell (lt_of_cell qx0) id).trans qx0
            have qx1 := (hC.cell (lt_of_cell qx1) id).trans qx1
            have qx2 := (hC.cell (lt_of_cell qx2) id).trans qx2
            have qx3 := (hC.cell (lt_of_cell qx3) id).trans qx3
            have qx4 := (hC.cell (lt_of_cell qx4) id).trans qx4
            have qy0 := (hC.cell (lt_of_cell qy0) id).trans qy0
            have qy1 := (hC.cell (lt_of_cell qy1) id).trans qy1
            have qy2 := (hC.cell (lt_of_cell qy2) id).trans qy2
            have qy3 := (hC.cell (lt_of_cell qy3) id).trans qy3
            have qy4 := (hC.cell (lt_of_cell qy4) id).trans qy4
            have ql0 := (hC.cell (lt_of_cell ql0) id).trans ql0
            have ql1 := (hC.cell (lt_of_cell ql1) id).trans ql1
            have ql2 := (hC.cell (lt_of_cell ql2) id).trans ql2
            have ql3 := (hC.cell (lt_of_cell ql3) id).trans ql3
            have ql4 := (hC.cell (lt_of_cell ql4) id).trans ql4
            have qo0 := (hC.cell (lt_of_cell qo0) id).trans qo0
            have qo1 := (hC.cell (lt_of_cell qo1) id).trans qo1
            have qo2 := (hC.cell (lt_of_cell qo2) id).trans qo2
            have qo3 := (hC.cell (lt_of_cell qo3) id).trans qo3
            have qo4 := (hC.cell (lt_of_cell qo4) id).trans qo4
            go_simp
            rfl
        (try simp only [Act.put, List.setIfInBounds_toArray, List.set_cons_zero, List.set_cons_succ])
        refine grow_eff rfl rfl rfl (fun w' hC hK => ?_) (fun v8 hv8 => ?_)
        · unfold growAt
          go_simp
          refine grow_call ((deep_any _ x (Nat.le_refl _) (by have := HXS.out.2; omega) _ _ _ (VAt.ext HVx.out hC)).mono ?_)
          rintro e w'' ⟨rfl, h1⟩
          exact ⟨_, rfl, h1, rfl⟩
        obtain ⟨_, _, rfl⟩ := hv8.head
        iterate 1
          (try simp only [Act.put, List.setIfInBounds_toArray, List.set_cons_zero, List.set_cons_succ])
          refine grow_run rfl rfl rfl ?_
          apply Exists.intro
          refine ⟨fun w' hC hK => ?_, ?_⟩
          · have qx0 := (hC.cell (lt_of_cell qx0) id).trans qx0
            have qx1 := (hC.cell (lt_of_cell qx1) id).trans qx1
            have qx2 := (hC.cell (lt_of_cell qx2) id).trans qx2
            have qx3 := (hC.cell (lt_of_cell qx3) id).trans qx3
            have qx4 := (hC.cell (lt_of_cell qx4) id).trans qx4
            have qy0 := (hC.cell (lt_of_cell qy0) id).trans qy0
            have qy1 := (hC.cell (lt_of_cell qy1) id).trans qy1
            have qy2 := (hC.cell (lt_of_cell qy2) id).trans qy2
            have qy3 := (hC.cell (lt_of_cell qy3) id).trans qy3
            have qy4 := (hC.cell (lt_of_cell qy4) id).trans qy4
            have ql0 := (hC.cell (lt_of_cell ql0) id).trans ql0
            have ql1 := (hC.cell (lt_of_cell ql1) id).trans ql1
            have ql2 := (hC.cell (lt_of_cell ql2) id).trans ql2
            have ql3 := (hC.cell (lt_of_cell ql3) id).trans ql3
            have ql4 := (hC.cell (lt_of_cell ql4) id).trans ql4
            have qo0 := (hC.cell (lt_of_cell qo0) id).trans qo0
            have qo1 := (hC.cell (lt_of_cell qo1) id).trans qo1
            have qo2 := (hC.cell (lt_of_cell qo2) id).trans qo2
            have qo3 := (hC.cell (lt_of_cell qo3) id).trans qo3
            have qo4 := (hC.cell (lt_of_cell qo4) id).trans qo4
            go_simp
            rfl
        (try simp only [Act.put, List.setIfInBounds_toArray, List.set_cons_zero, List.set_cons_succ])
        refine grow_eff rfl rfl rfl (fun w' hC hK => ?_) (fun v10 hv10 => ?_)
        · unfold growAt
          go_simp
          refine grow_call ((deep_any _ y (Nat.le_refl _) (by have := HYS.out.2; omega) _ _ _ (VAt.ext HVy.out hC)).mono ?_)
          rintro e w'' ⟨rfl, h1⟩
          exact ⟨_, rfl, h1, rfl⟩
        obtain ⟨_, _, rfl⟩ := hv10.head
        iterate 6
          (try simp only [Act.put, List.setIfInBounds_toArray, List.set_cons_zero, List.set_cons_succ])
          refine grow_run rfl rfl rfl ?_
          apply Exists.intro
          refine ⟨fun w' hC hK => ?_, ?_⟩
          · have qx0 := (hC.cell (lt_of_cell qx0) id).trans qx0
            have qx1 := (hC.cell (lt_of_cell qx1) id).trans qx1
            have qx2 := (hC.cell (lt_of_cell qx2) id).trans qx2
            have qx3 := (hC.cell (lt_of_cell qx3) id).trans qx3
            have qx4 := (hC.cell (lt_of_cell qx4) id).trans qx4
            have qy0 := (hC.cell (lt_of_cell qy0) id).trans qy0
            have qy1 := (hC.cell (lt_of_cell qy1) id).trans qy1
            have qy2 := (hC.cell (lt_of_cell qy2) id).trans qy2
            have qy3 := (hC.cell (lt_of_cell qy3) id).trans qy3
            have qy4 := (hC.cell (lt_of_cell qy4) id).trans qy4
            have ql0 := (hC.cell (lt_of_cell ql0) id).trans ql0
            have ql1 := (hC.cell (lt_of_cell ql1) id).trans ql1
            have ql2 := (hC.cell (lt_of_cell ql2) id).trans ql2
            have ql3 := (hC.cell (lt_of_cell ql3) id).trans ql3
            have ql4 := (hC.cell (lt_of_cell ql4) id).trans ql4
            have qo0 := (hC.cell (lt_of_cell qo0) id).trans qo0
            have qo1 := (hC.cell (lt_of_cell qo1) id).trans qo1
            have qo2 := (hC.cell (lt_of_cell qo2) id).trans qo2
            have qo3 := (hC.cell (lt_of_cell qo3) id).trans qo3
            have qo4 := (hC.cell (lt_of_cell qo4) id).trans qo4
            go_simp
            rfl
        (try simp only [Act.put, List.setIfInBounds_toArray, List.set_cons_zero, List.set_cons_succ])
        refine grow_eff rfl rfl rfl (fun w' hC hK => ?_) (fun v17 hv17 => ?_)
        · unfold growAt
          go_simp
          refine grow_call (((deep_any _ (.mk 5 0 ⟨#[]⟩ [] [.mk K x]) (Nat.le_refl _) (by have := HOZ.out; omega) _ _ _ (VAt.ext HVo.out hC)).mono (fun e w' h => by rw [HDO.out] at h; exact h)).mono ?_)
          rintro e w'' ⟨rfl, h1⟩
          exact ⟨_, rfl, h1, rfl⟩
        obtain ⟨_, _, rfl⟩ := hv17.head
        iterate 1
          (try simp only [Act.put, List.setIfInBounds_toArray, List.set_cons_zero, List.set_cons_succ])
          refine grow_run rfl rfl rfl ?_
          apply Exists.intro
          refine ⟨fun w' hC hK => ?_, ?_⟩
          · have qx0 := (hC.cell (lt_of_cell qx0) id).trans qx0
            have qx1 := (hC.cell (lt_of_cell qx1) id).trans qx1
            have qx2 := (hC.cell (lt_of_cell qx2) id).trans qx2
            have qx3 := (hC.cell (lt_of_cell qx3) id).trans qx3
            have qx4 := (hC.cell (lt_of_cell qx4) id).trans qx4
            have qy0 := (hC.cell (lt_of_cell qy0) id).trans qy0
            have qy1 := (hC.cell (lt_of_cell qy1) id).trans qy1
            have qy2 := (hC.cell (lt_of_cell qy2) id).trans qy2
            have qy3 := (hC.cell (lt_of_cell qy3) id).trans qy3
            have qy4 := (hC.cell (lt_of_cell qy4) id).trans qy4
            have ql0 := (hC.cell (lt_of_cell ql0) id).trans ql0
            have ql1 := (hC.cell (lt_of_cell ql1) id).trans ql1
            have ql2 := (hC.cell (lt_of_cell ql2) id).trans ql2
            have ql3 := (hC.cell (lt_of_cell ql3) id).trans ql3
            have ql4 := (hC.cell (lt_of_cell ql4) id).trans ql4
            have qo0 := (hC.cell (lt_of_cell qo0) id).trans qo0
            have qo1 := (hC.cell (lt_of_cell qo1) id).trans qo1
            have qo2 := (hC.cell (lt_of_cell qo2) id).trans qo2
            have qo3 := (hC.cell (lt_of_cell qo3) id).trans qo3
            have qo4 := (hC.cell (lt_of_cell qo4) id).trans qo4
            go_simp
            rfl
        (try simp only [Act.put, List.setIfInBounds_toArray, List.set_cons_zero, List.set_cons_succ])
        refine grow_eff rfl rfl rfl (fun w' hC hK => ?_) (fun v19 hv19 => ?_)
        · unfold growAt
          go_simp
          refine grow_call ((deep_any _ x (Nat.le_refl _) (by have := HXS.out.2; omega) _ _ _ (VAt.ext HVx.out hC)).mono ?_)
          rintro e w'' ⟨rfl, h1⟩
          exact ⟨_, rfl, h1, rfl⟩
        obtain ⟨_, _, rfl⟩ := hv19.head
        iterate 4
          (try simp only [Act.put, List.setIfInBounds_toArray, List.set_cons_zero, List.set_cons_succ])
          refine grow_run rfl rfl rfl ?_
          apply Exists.intro
          refine ⟨fun w' hC hK => ?_, ?_⟩
          · have qx0 := (hC.cell (lt_of_cell qx0) id).trans qx0
            have qx1 := (hC.cell (lt_of_cell qx1) id).trans qx1
            have qx2 := (hC.cell (lt_of_cell qx2) id).trans qx2
            have qx3 := (hC.cell (lt_of_cell qx3) id).trans qx3
            have qx4 := (hC.cell (lt_of_cell qx4) id).trans qx4
            have qy0 := (hC.cell (lt_of_cell qy0) id).trans qy0
            have qy1 := (hC.cell (lt_of_cell qy1) id).trans qy1
            have qy2 := (hC.cell (lt_of_cell qy2) id).trans qy2
            have qy3 := (hC.cell (lt_of_cell qy3) id).trans qy3
            have qy4 := (hC.cell (lt_of_cell qy4) id).trans qy4
            have ql0 := (hC.cell (lt_of_cell ql0) id).trans ql0
            have ql1 := (hC.cell (lt_of_cell ql1) id).trans ql1
            have ql2 := (hC.cell (lt_of_cell ql2) id).trans ql2
            have ql3 := (hC.cell (lt_of_cell ql3) id).trans ql3
            have ql4 := (hC.cell (lt_of_cell ql4) id).trans ql4
            have qo0 := (hC.cell (lt_of_cell qo0) id).trans qo0
            have qo1 := (hC.cell (lt_of_cell qo1) id).trans qo1
            have qo2 := (hC.cell (lt_of_cell qo2) id).trans qo2
            have qo3 := (hC.cell (lt_of_cell qo3) id).trans qo3
            have qo4 := (hC.cell (lt_of_cell qo4) id).trans qo4
            go_simp
            rfl
        refine grow_nil fun w17 hC _ => ?_
        have hC : Ext w16 w17 := hC
        replace HEW := hid (HEW.out.ext hC)
        replace HBx := hid (HBx.out.keep hC id)
        replace HBy := hid (HBy.out.keep hC id)
        replace HBl := hid (HBl.out.keep hC id)
        replace HBo := hid (HBo.out.keep hC id)
        replace HVx := hid (HVx.out.ext hC)
        replace HVy := hid (HVy.out.ext hC)
        replace HVl := hid (HVl.out.ext hC)
        replace HVo := hid (HVo.out.ext hC)
        clear hC qx0 qx1 qx2 qx3 qx4 qy0 qy1 qy2 qy3 qy4 ql0 ql1 ql2 ql3 ql4 qo0 qo1 qo2 qo3 qo4
        go_wp2
        go_ret
        exact ⟨by first | rfl | simp, HEW.out⟩
theorem built_lift {Q0 Q1 : Prop} (lv : Value) (ts : List Tk) (mv : Value) (ms : List Tk) (key : ByteArray) (w : World) (h0 : Sl ETok w (fun k => k < w.heap.size) lv ts) (q0 : Q0) (h1 : Sl ETok w (fun k => k < w.heap.size) mv ms) (q1 : Q1) (q2 : key.size ≤ reachBytes) (hv : ValAny w) :
    Calls Tryd.prog 7 #[lv, mv, .string key] w fun e w' => e = .returned (.bool true) ∧ Below w.heap.size w w' :=
  (built_walk lv mv ts ms key w (h0.more ETok.ok fun _ _ _ => trivial) (h1.more ETok.ok fun _ _ _ => trivial)  hv).mono fun e w' h => ⟨h.1, h.2.toBelow⟩
end Go.Proofs.YtaemmabaekjkeaaDoor
