/- ValCopyT, PathG, LawWalk, CloneStep, RefSameAny, PathBeg, PathSnd, LawKnown3, LawHeavy3, PathLaw, PathAtP: laid together. -/
import Derived.Test.YtioplgfopillnaaDoorTtB7
import Derived.Test.YtioplgfopillnaaDoorTtB4
import Derived.Test.YtioplgfopillnaaDoorTtB6
import Derived.Laws.Strings
import Derived.Test.YtioplgfopillnaaDoorTtB2
/- val.Copy by contract: each row of the copy in a block of its own. -/
set_option linter.unusedSimpArgs false
set_option linter.unusedVariables false
namespace Go.Proofs.YtioplgfopillnaaDoor
open Go.RowKit
set_option linter.unusedVariables false

/-- A row of the call's own, its form in sight. -/
def OwnShape {α : Type} (E : El α) (w : World) (base : Nat) (T : TypeId) (S : BS) (v : Value) (xs : List α) : Prop := ∃ A c, v = .slice A xs.length c ∧ Own E w base T S v xs
theorem OwnShape.ext {α : Type} {E : El α} (hE : E.Ok) {w w' : World} {base : Nat} {T : TypeId} {S : BS} {v : Value} {xs : List α} (h : OwnShape E w base T S v xs) (he : Ext w w') : OwnShape E w' base T S v xs := by
  obtain ⟨A, c, e, h⟩ := h; exact ⟨A, c, e, h.ext hE he⟩

/-- What a copy leaves. -/
def CopyT (w : World) (v : V) (e : Ending) (w' : World) : Prop := ∃ lv ov, e = .returned (.agg #[U8 v.kind, .int .i64 v.n, .string v.s, lv, ov]) ∧ TV w' v w.heap.size w'.heap.size [U8 v.kind, .int .i64 v.n, .string v.s, lv, ov] ∧ Ext w w'
theorem TV_at {w : World} {v : V} {a b : Nat} {x0 x1 x2 lv ov : Value} (h : TV w v a b [x0, x1, x2, lv, ov]) {S : BS} (hS : ∀ q, a ≤ q → q < b → S q) : VAt w S (.agg #[x0, x1, x2, lv, ov]) v := by
  obtain ⟨lv', ov', e, h1, h2⟩ := rdV_iff.1 (TV_rd _ _ _ _ hS h)
  simp at e
  obtain ⟨rfl, rfl, rfl, rfl, rfl⟩ := e
  exact ⟨_, _, rfl, h1, h2⟩
theorem CopyT.at_ {w : World} {v : V} {e : Ending} {w' : World} (h : CopyT w v e w') : ∃ u', e = .returned u' ∧ VAt w' (fun k => w.heap.size ≤ k) u' v ∧ Ext w w' := by
  obtain ⟨lv, ov, h1, h2, h3⟩ := h
  exact ⟨_, h1, TV_at h2 fun q hq _ => hq, h3⟩

/-- A value of which each row has its own block, as a call hands it on. -/
def TVat (w : World) (a : Nat) (u : Value) (v : V) : Prop := ∃ lv ov, u = .agg #[U8 v.kind, .int .i64 v.n, .string v.s, lv, ov] ∧ TV w v a w.heap.size [U8 v.kind, .int .i64 v.n, .string v.s, lv, ov]
theorem TVat.ext {w w' : World} {a : Nat} {u : Value} {v : V} (h : TVat w a u v) (he : Ext w w') : TVat w' a u v := by
  obtain ⟨lv, ov, h1, h2⟩ := h
  exact ⟨lv, ov, h1, TV_mono (TV_keep he _ _ _ _ (fun _ _ _ x => x) h2) (Nat.le_refl _) he.size⟩
theorem TVat.get {w : World} {a : Nat} {x0 x1 x2 lv ov : Value} {v : V} (h : TVat w a (.agg #[x0, x1, x2, lv, ov]) v) : TV w v a w.heap.size [x0, x1, x2, lv, ov] := by
  obtain ⟨lv', ov', e, h⟩ := h
  simp only [Value.agg.injEq] at e
  simp at e
  obtain ⟨rfl, rfl, rfl, rfl, rfl⟩ := e
  exact h
theorem TV.shapes {w : World} {v : V} {a b : Nat} {x0 x1 x2 lv ov : Value} (h : TV w v a b [x0, x1, x2, lv, ov]) : (∃ A c, lv = .slice A v.l.length c) ∧ (∃ A c, ov = .slice A v.o.length c) := by
  obtain ⟨lv', ov', e, h1, h2⟩ := TV_at h (S := fun _ => True) (fun _ _ _ => trivial)
  simp only [Value.agg.injEq] at e
  simp at e
  obtain ⟨_, _, _, rfl, rfl⟩ := e
  obtain ⟨A, c, rfl, _⟩ := h1.shape
  obtain ⟨A', c', rfl, _⟩ := h2.shape
  exact ⟨⟨_, _, rfl⟩, ⟨_, _, rfl⟩⟩

set_option maxHeartbeats 3200000 in
theorem copy_valT : ∀ (n : Nat) (v : V), v.size ≤ n → n ≤ 1000000 → ∀ (u : Value) (S : BS) (w : World), VAt w S u v → Calls Tryd.prog 53 #[u] w (CopyT w v) := by
  intro n
  induction n with
  | zero => intro v h; have := v.size_pos; omega
  | succ n ih =>
    intro v hsz hn u S w hv
    obtain ⟨lv, ov, rfl, hl, ho⟩ := hv.cut
    have hlen := V.size_eq v
    have hl1 := V.sizes_len v.l
    have ho1 := F.sizes_len v.o
    have HIH := hid ih
    have HLM := hid (fun (x : V) (hx : x ∈ v.l) => (by have := V.sizes_mem hx; omega : x.size ≤ n))
    have HOM := hid (fun (x : F) (hx : x ∈ v.o) => (by have := F.sizes_mem hx; omega : x.v.size ≤ n))
    clear ih hv
    obtain ⟨A, c, rfl, hlc, hcm⟩ := hl.shape
    obtain ⟨A', c', rfl, hlc', hcm'⟩ := ho.shape
    have hll : v.l.length ≤ 1000000 := by omega
    have hol : v.o.length ≤ 1000000 := by omega
    generalize hvk : v.kind = kk at *
    generalize hvn : v.n = nn at *
    generalize hvs : v.s = ss at *
    generalize hvl : v.l = vl at *
    generalize hvo : v.o = vo at *
    have HEQ := hid (show v = .mk kk nn ss vl vo from by cases v; simp [V.kind, V.n, V.s, V.l, V.o] at hvk hvn hvs hvl hvo; subst hvk hvn hvs hvl hvo; rfl)
    clear hlen hl1 ho1 hvk hvn hvs
    have hb1 : Blk ((w.alloc (.cells #[U8 kk, .int .i64 nn, .string ss, .slice A vl.length c, .slice A' vo.length c'] TVAL)).alloc (.cells #[.int .u8 0, .int .i64 0, .string ⟨#[]⟩, .slice none 0 0, .slice none 0 0] TVAL)) w.heap.size TVAL #[U8 kk, .int .i64 nn, .string ss, .slice A vl.length c, .slice A' vo.length c'] := (Blk.new _ _ _).alloc _
    have hb2 : Blk ((w.alloc (.cells #[U8 kk, .int .i64 nn, .string ss, .slice A vl.length c, .slice A' vo.length c'] TVAL)).alloc (.cells #[.int .u8 0, .int .i64 0, .string ⟨#[]⟩, .slice none 0 0, .slice none 0 0] TVAL)) (w.heap.size + 1) TVAL #[.int .u8 0, .int .i64 0, .string ⟨#[]⟩, .slice none 0 0, .slice none 0 0] := by
      have := Blk.new (w.alloc (.cells #[U8 kk, .int .i64 nn, .string ss, .slice A vl.length c, .slice A' vo.length c'] TVAL)) TVAL #[.int .u8 0, .int .i64 0, .string ⟨#[]⟩, .slice none 0 0, .slice none 0 0]
      rwa [World.size_alloc] at this
    have hE1 : Ext w ((w.alloc (.cells #[U8 kk, .int .i64 nn, .string ss, .slice A vl.length c, .slice A' vo.length c'] TVAL)).alloc (.cells #[.int .u8 0, .int .i64 0, .string ⟨#[]⟩, .slice none 0 0, .slice none 0 0] TVAL)) := ((Keep.refl _ _).alloc _).alloc _
    have hz1 : ((w.alloc (.cells #[U8 kk, .int .i64 nn, .string ss, .slice A vl.length c, .slice A' vo.length c'] TVAL)).alloc (.cells #[.int .u8 0, .int .i64 0, .string ⟨#[]⟩, .slice none 0 0, .slice none 0 0] TVAL)).heap.size = w.heap.size + 2 := by simp
    have HL := hid hl
    have HO := hid ho
    clear hl ho hvl hvo
    go_enter Tryd.func53, Tryd.ntmps53
    go_wp2_with fail
    generalize (w.alloc (.cells #[U8 kk, .int .i64 nn, .string ss, .slice A vl.length c, .slice A' vo.length c'] TVAL)).alloc (.cells #[.int .u8 0, .int .i64 0, .string ⟨#[]⟩, .slice none 0 0, .slice none 0 0] TVAL) = w1 at *
    have HB1 := hid hb1
    have HB2 := hid hb2
    have HE1 := hid hE1
    have HZ1 := hid hz1
    have q3 := hb1.cell 3
    have q4 := hb1.cell 4
    simp at q3 q4
    clear hb1 hb2 hE1 hz1
    refine wp_region_parts [0, 3] [1, 2, 4, 5, 6] [7, 8, 9] (specOf [(2, fun v' w' => OwnShape EVal w' w1.heap.size TVAL (fun k => S k ∧ k < w.heap.size) v' vl), (5, fun v' w' => OwnShape EField w' w1.heap.size TFIELD (fun k => S k ∧ k < w.heap.size) v' vo)])
      (fun w' => Ext w1 w') ?_ (stableC_ext _) (by kernel_rfl) (by kernel_rfl) (Keep.drew (Keep.refl _ _)) ?_
    · exact stable_cons (fun v w w' h he => h.ext EVal.ok he) (stable_cons (fun v w w' h he => h.ext EField.ok he) stable_nil)
    iterate 2
      (try simp only [Act.put, List.setIfInBounds_toArray, List.set_cons_zero, List.set_cons_succ])
      refine pure_run rfl rfl ?_
      apply Exists.intro
      refine ⟨fun w' => ?_, ?_⟩
      · go_simp
        rfl
    refine pure_nil ?_
    iterate 1
      (try simp only [Act.put, List.setIfInBounds_toArray, List.set_cons_zero, List.set_cons_succ])
      refine growP_run rfl rfl rfl ?_
      apply Exists.intro
      refine ⟨fun w' hC hK => ?_, ?_⟩
      · have q3 := (hC.cell (lt_of_cell q3) id).trans q3
        go_simp
        rfl
    (try simp only [Act.put, List.setIfInBounds_toArray, List.set_cons_zero, List.set_cons_succ])
    refine growP_eff rfl rfl rfl (fun w' hC hK => ?_) (fun v2 hv2 => ?_)
    · unfold growAt
      go_simp
      refine grow_call ((clone_vals _ vl _ _ ((HL.out.ext EVal.ok HE1.out).ext EVal.ok hC) hll (fun k h => by have := HZ1.out; have := hC.size; have := h.2; omega)).mono ?_)
      rintro e w'' ⟨v', rfl, h1, h2⟩
      obtain ⟨A2, c2, e2, _⟩ := h1.shape
      exact ⟨_, rfl, h2, A2, c2, e2, h1.less hC.size⟩
    obtain ⟨_, _, A2, c2, rfl, _⟩ := hv2.head
    iterate 1
      (try simp only [Act.put, List.setIfInBounds_toArray, List.set_cons_zero, List.set_cons_succ])
      refine growP_run rfl rfl rfl ?_
      apply Exists.intro
      refine ⟨fun w' hC hK => ?_, ?_⟩
      · have q4 := (hC.cell (lt_of_cell q4) id).trans q4
        go_simp
        rfl
    (try simp only [Act.put, List.setIfInBounds_toArray, List.set_cons_zero, List.set_cons_succ])
    refine growP_eff rfl rfl rfl (fun w' hC hK => ?_) (fun v5 hv5 => ?_)
    · unfold growAt
      go_simp
      refine grow_call ((clone_fields _ vo _ _ ((HO.out.ext EField.ok HE1.out).ext EField.ok hC) hol (fun k h => by have := HZ1.out; have := hC.size; have := h.2; omega)).mono ?_)
      rintro e w'' ⟨v', rfl, h1, h2⟩
      obtain ⟨A2, c2, e2, _⟩ := h1.shape
      exact ⟨_, rfl, h2, A2, c2, e2, h1.less hC.size⟩
    obtain ⟨_, _, A5, c5, rfl, _⟩ := hv5.head
    iterate 1
      (try simp only [Act.put, List.setIfInBounds_toArray, List.set_cons_zero, List.set_cons_succ])
      refine growP_run rfl rfl rfl ?_
      apply Exists.intro
      refine ⟨fun w' hC hK => ?_, ?_⟩
      · go_simp
        rfl
    refine growP_nil fun w2 hC hK => ?_
    obtain ⟨_, _, _, f2⟩ : OwnShape EVal w2 w1.heap.size TVAL (fun k => S k ∧ k < w.heap.size) (.slice A2 vl.length c2) vl := hK (2, _) (List.mem_cons_of_mem _ List.mem_cons_self)
    obtain ⟨_, _, _, f5⟩ : OwnShape EField w2 w1.heap.size TFIELD (fun k => S k ∧ k < w.heap.size) (.slice A5 vo.length c5) vo := hK (5, _) List.mem_cons_self
    change wpList _ _ _ (_ :: _ :: _ :: []) _ _
    have hC' : Ext w1 w2 := hC
    have HF2 := hid f2
    have HF5 := hid f5
    have HB3 := hid (HB1.out.keep hC' id)
    have HB4 := hid (HB2.out.keep hC' id)
    have HE2 := hid (HE1.out.ext hC')
    have HZ2 := hid hC'.size
    have hx3 := HB3.out.cell 3
    have hx4 := HB3.out.cell 4
    have hy3 := HB3.out.frozen 3
    have hy4 := HB3.out.frozen 4
    simp at hx3 hx4
    clear hC hC' hK hv2 hv5 f2 f5 q3 q4
    (try simp only [Act.put, List.setIfInBounds_toArray, List.set_cons_zero, List.set_cons_succ])
    have hw3 : CopyLT w ((w2.setCell ⟨w.heap.size, 3, none⟩ (.slice A2 vl.length c2)).setCell ⟨w.heap.size, 4, none⟩ (.slice A5 vo.length c5)) (fun k => S k ∧ k < w.heap.size) w.heap.size w1.heap.size w2.heap.size w2.heap.size w2.heap.size (U8 kk) (.int .i64 nn) (.string ss) (.slice A2 vl.length c2) (.slice A5 vo.length c5) vl vo 0 0 := by
      have hk : Keep (· = w.heap.size) w2 ((w2.setCell ⟨w.heap.size, 3, none⟩ (.slice A2 vl.length c2)).setCell ⟨w.heap.size, 4, none⟩ (.slice A5 vo.length c5)) := ((Keep.refl (· = w.heap.size) w2).set1 3 _).set1 4 _
      have hz1 := HZ1.out
      have hz2 := HZ2.out
      refine ⟨HE2.out.trans hk (fun q hq e => by omega), hk.size, Nat.le_refl _, Nat.le_refl _, hk.size, ?_, HB4.out.keep hk (by omega), (MixT.start TVs.okR HF2.out (Nat.le_refl _)).keep EVal.ok TVs.okR hk (fun q hq _ e => by omega) (fun q hq e => by have := hq.2; omega) (fun q hq e => by have := (HF2.out.lt hq).1; omega),
        (MixT.start TFs.okR HF5.out (Nat.le_refl _)).keep EField.ok TFs.okR hk (fun q hq _ e => by omega) (fun q hq e => by have := hq.2; omega) (fun q hq e => by have := (HF5.out.lt hq).1; omega), ?_, by omega, rfl, fun q hq => hq.2, fun g hg => (HF2.out.lt hg).2, fun g hg => (HF5.out.lt hg).2⟩
      · have := (HB3.out.set_ 3 (.slice A2 vl.length c2)).set_ 4 (.slice A5 vo.length c5)
        simpa using this
      · intro g h1 h2
        rcases HF2.out with ⟨e, _⟩ | ⟨g1, cap1, cur1, e, _, hb1, _⟩
        · rw [e] at h1; cases h1
        rcases HF5.out with ⟨e', _⟩ | ⟨g2, cap2, cur2, e', _, hb2, _⟩
        · rw [e'] at h2; cases h2
        rw [e] at h1
        rw [e'] at h2
        obtain rfl : g1 = g := Option.some.inj h1
        obtain rfl : g2 = g1 := Option.some.inj h2
        exact Blk.ne_ hb1 hb2 (by decide) rfl
    have HW3 := hid hw3
    clear hw3
    go_wp2_with fail
    refine NoPanic.normal ?_
    have HW3' := HW3
    generalize (w2.setCell ⟨w.heap.size, 3, none⟩ (.slice A2 vl.length c2)).setCell ⟨w.heap.size, 4, none⟩ (.slice A5 vo.length c5) = w3 at *
    clear HW3' HB3 HB4 HE2 HF2 HF5 hx3 hx4 hy3 hy4 HB1 HB2 HE1 HL HO
    obtain ⟨bx, hbx⟩ : ∃ bx, bx = w.heap.size := ⟨_, rfl⟩
    obtain ⟨b1, hb1⟩ : ∃ b1, b1 = w1.heap.size := ⟨_, rfl⟩
    obtain ⟨B, hB⟩ : ∃ B, B = w2.heap.size := ⟨_, rfl⟩
    rw [← hb1, ← hB] at HW3
    rw [← hb1, ← hB] at HZ2
    have q3 := HW3.out.box.cell 3
    simp at q3
    go_wp2_with fail
    clear q3
    go_loopw [16] (fun i wr => ∃ (j m1 : Nat), j ≤ vl.length ∧ i = .int .i64 j ∧ CopyLT w wr (fun k => S k ∧ k < w.heap.size) w.heap.size b1 B m1 m1 (U8 kk) (.int .i64 nn) (.string ss) (.slice A2 vl.length c2) (.slice A5 vo.length c5) vl vo j 0) (fun i _ => vl.length - (intOf i).toNat)
    case atStart => exact ⟨0, B, by omega, rfl, HW3.out⟩
    case round =>
      clear HW3
      obtain ⟨j, m1, hj, rfl, hr⟩ := hrel
      by_cases hlt : j < vl.length
      · obtain ⟨g, cap, a0, b0, c0, d0, e0, hlv, hg1, hg2, hva, ⟨x0, x1, x2, x3, x4⟩, hfz, hnext⟩ := hr.l.nextV hlt
        injection hlv with hA hl' hc
        subst hA hc
        have hgB := hr.gl g rfl
        have HNX := hid hnext
        have q3 := hr.box.cell 3
        simp at q3
        have HR := hid hr
        have HVA := hid hva
        have hxs := HLM.out vl[j] (List.getElem_mem _)
        generalize hx : vl[j] = x at *
        have HX := hid hx
        have HFZ := hid hfz
        clear hnext hr hva hfz hx hl'
        go_wp2_with fail
        refine wp_region_parts [0, 2, 3, 5] [1, 4, 6, 7, 8, 9] [10] (specOf [(8, fun u w' => TVat w' wr.heap.size u x)]) (fun w' => Ext wr w') ?_ (stableC_ext _) (by kernel_rfl) (by kernel_rfl) (Keep.drew (Keep.refl _ _)) ?_
        · exact stable_cons (fun v w w' h he => h.ext he) stable_nil
        iterate 4
          (try simp only [Act.put, List.setIfInBounds_toArray, List.set_cons_zero, List.set_cons_succ])
          refine pure_run rfl rfl ?_
          apply Exists.intro
          refine ⟨fun w' => ?_, ?_⟩
          · go_simp
            rfl
        refine pure_nil ?_
        iterate 4
          (try simp only [Act.put, List.setIfInBounds_toArray, List.set_cons_zero, List.set_cons_succ])
          refine growP_run rfl rfl rfl ?_
          apply Exists.intro
          refine ⟨fun w' hC hK => ?_, ?_⟩
          · have q3 := (hC.cell (lt_of_cell q3) id).trans q3
            have x0 := (hC.cell (lt_of_cell x0) id).trans x0
            have x1 := (hC.cell (lt_of_cell x1) id).trans x1
            have x2 := (hC.cell (lt_of_cell x2) id).trans x2
            have x3 := (hC.cell (lt_of_cell x3) id).trans x3
            have x4 := (hC.cell (lt_of_cell x4) id).trans x4
            go_simp
            rfl
        (try simp only [Act.put, List.setIfInBounds_toArray, List.set_cons_zero, List.set_cons_succ])
        refine growP_eff rfl rfl rfl (fun w' hC hK => ?_) (fun v8 hv8 => ?_)
        · unfold growAt
          go_simp
          refine grow_call ((HIH.out x hxs (by omega) _ _ _ (HVA.out.ext hC)).mono ?_)
          intro e w'' hcp
          obtain ⟨l1, o1, rfl, h1, h2⟩ := hcp
          exact ⟨_, rfl, h2, l1, o1, rfl, TV_mono h1 hC.size (Nat.le_refl _)⟩
        obtain ⟨_, _, lv8, ov8, rfl, htv8⟩ := hv8.head
        obtain ⟨⟨A8, d8, rfl⟩, ⟨A9, d9, rfl⟩⟩ := htv8.shapes
        clear htv8
        iterate 1
          (try simp only [Act.put, List.setIfInBounds_toArray, List.set_cons_zero, List.set_cons_succ])
          refine growP_run rfl rfl rfl ?_
          apply Exists.intro
          refine ⟨fun w' hC hK => ?_, ?_⟩
          · go_simp
            rfl
        refine growP_nil fun w4 hC hK => ?_
        have h8 : TV w4 x wr.heap.size w4.heap.size [U8 x.kind, .int .i64 x.n, .string x.s, .slice A8 x.l.length d8, .slice A9 x.o.length d9] := (show TVat w4 wr.heap.size (.agg #[U8 x.kind, .int .i64 x.n, .string x.s, .slice A8 x.l.length d8, .slice A9 x.o.length d9]) x from hK (8, _) List.mem_cons_self).get
        change wpList _ _ _ (_ :: []) _ _
        have hC' : Ext wr w4 := hC
        have hzr := HR.out.size
        have hbx := HR.out.hbx
        have hst := HR.out.step_ext hC'
        have hmx := HNX.out w4 w4.heap.size _ _ _ _ _ hC' (by omega) (fun h => by have := h.2; have := HR.out.hb1; omega) (TV_mono h8 HR.out.h3 (Nat.le_refl _)) HR.out.h1
        have HN := hid (hst.stepL rfl (Nat.le_trans HR.out.h3 hC'.size) (Nat.le_refl _) hmx)
        have y0 := (hC'.cell (lt_of_cell x0) id).trans x0
        have y1 := (hC'.cell (lt_of_cell x1) id).trans x1
        have y2 := (hC'.cell (lt_of_cell x2) id).trans x2
        have y3 := (hC'.cell (lt_of_cell x3) id).trans x3
        have y4 := (hC'.cell (lt_of_cell x4) id).trans x4
        have z0 := (hC'.frozen (p := ⟨g, j * 5, none⟩) hg2 id).trans (HFZ.out _)
        have z1 := (hC'.frozen (p := ⟨g, j * 5 + 1, none⟩) hg2 id).trans (HFZ.out _)
        have z2 := (hC'.frozen (p := ⟨g, j * 5 + 2, none⟩) hg2 id).trans (HFZ.out _)
        have z3 := (hC'.frozen (p := ⟨g, j * 5 + 3, none⟩) hg2 id).trans (HFZ.out _)
        have z4 := (hC'.frozen (p := ⟨g, j * 5 + 4, none⟩) hg2 id).trans (HFZ.out _)
        clear hC hC' hK hst hmx h8 hv8 q3 x0 x1 x2 x3 x4 hzr hbx
        (try simp only [Act.put, List.setIfInBounds_toArray, List.set_cons_zero, List.set_cons_succ])
        go_wp2_with fail
        refine NoPanic.normal ?_
        clear y0 y1 y2 y3 y4 z0 z1 z2 z3 z4
        go_wp2
        exact ⟨⟨j + 1, w4.heap.size, by omega, by go_num, HN.out⟩, by simp [intOf]; omega⟩
      · obtain rfl : j = vl.length := by omega
        have HR := hid hr
        clear hr
        have q4 := HR.out.box.cell 4
        simp at q4
        go_wp2_with fail
        clear q4
        go_loopw [33] (fun i wr => ∃ (j m2 : Nat), j ≤ vo.length ∧ i = .int .i64 j ∧ CopyLT w wr (fun k => S k ∧ k < w.heap.size) w.heap.size b1 B m1 m2 (U8 kk) (.int .i64 nn) (.string ss) (.slice A2 vl.length c2) (.slice A5 vo.length c5) vl vo vl.length j) (fun i _ => vo.length - (intOf i).toNat)
        case atStart => exact ⟨0, m1, by omega, rfl, HR.out⟩
        case round =>
          clear HR
          obtain ⟨j, m2, hj, rfl, hr⟩ := hrel
          by_cases hlt : j < vo.length
          · obtain ⟨g, cap, a0, b0, c0, d0, e0, hlv, hg1, hg2, hva, ⟨x0, x1, x2, x3, x4⟩, hfz, hnext⟩ := hr.o.nextF hlt
            injection hlv with hA hl' hc
            subst hA hc
            have hgB := hr.go g rfl
            have HNX := hid hnext
            have q4 := hr.box.cell 4
            simp at q4
            have HR := hid hr
            have HVA := hid hva
            have hxs := HOM.out vo[j] (List.getElem_mem _)
            generalize hx : vo[j] = x at *
            have HFZ := hid hfz
            clear hnext hr hva hfz hx hl'
            go_wp2_with fail
            refine wp_region_parts [0, 2, 3, 5] [1, 4, 6, 7, 8, 9, 10, 11] [12] (specOf [(9, fun u w' => TVat w' wr.heap.size u x.v)]) (fun w' => Ext wr w') ?_ (stableC_ext _) (by kernel_rfl) (by kernel_rfl) (Keep.drew (Keep.refl _ _)) ?_
            · exact stable_cons (fun v w w' h he => h.ext he) stable_nil
            iterate 4
              (try simp only [Act.put, List.setIfInBounds_toArray, List.set_cons_zero, List.set_cons_succ])
              refine pure_run rfl rfl ?_
              apply Exists.intro
              refine ⟨fun w' => ?_, ?_⟩
              · go_simp
                rfl
            refine pure_nil ?_
            iterate 5
              (try simp only [Act.put, List.setIfInBounds_toArray, List.set_cons_zero, List.set_cons_succ])
              refine growP_run rfl rfl rfl ?_
              apply Exists.intro
              refine ⟨fun w' hC hK => ?_, ?_⟩
              · have q4 := (hC.cell (lt_of_cell q4) id).trans q4
                have x0 := (hC.cell (lt_of_cell x0) id).trans x0
                have x1 := (hC.cell (lt_of_cell x1) id).trans x1
                have x2 := (hC.cell (lt_of_cell x2) id).trans x2
                have x3 := (hC.cell (lt_of_cell x3) id).trans x3
                have x4 := (hC.cell (lt_of_cell x4) id).trans x4
                go_simp
                rfl
            (try simp only [Act.put, List.setIfInBounds_toArray, List.set_cons_zero, List.set_cons_succ])
            refine growP_eff rfl rfl rfl (fun w' hC hK => ?_) (fun v8 hv8 => ?_)
            · unfold growAt
              go_simp
              refine grow_call ((HIH.out x.v hxs (by omega) _ _ _ (HVA.out.ext hC)).mono ?_)
              intro e w'' hcp
              obtain ⟨l1, o1, rfl, h1, h2⟩ := hcp
              exact ⟨_, rfl, h2, l1, o1, rfl, TV_mono h1 hC.size (Nat.le_refl _)⟩
            obtain ⟨_, _, lv8, ov8, rfl, htv8⟩ := hv8.head
            obtain ⟨⟨A8, d8, rfl⟩, ⟨A9, d9, rfl⟩⟩ := htv8.shapes
            clear htv8
            iterate 2
              (try simp only [Act.put, List.setIfInBounds_toArray, List.set_cons_zero, List.set_cons_succ])
              refine growP_run rfl rfl rfl ?_
              apply Exists.intro
              refine ⟨fun w' hC hK => ?_, ?_⟩
              · go_simp
                rfl
            refine growP_nil fun w4 hC hK => ?_
            have h8 : TV w4 x.v wr.heap.size w4.heap.size [U8 x.v.kind, .int .i64 x.v.n, .string x.v.s, .slice A8 x.v.l.length d8, .slice A9 x.v.o.length d9] := (show TVat w4 wr.heap.size (.agg #[U8 x.v.kind, .int .i64 x.v.n, .string x.v.s, .slice A8 x.v.l.length d8, .slice A9 x.v.o.length d9]) x.v from hK (9, _) List.mem_cons_self).get
            change wpList _ _ _ (_ :: []) _ _
            have hC' : Ext wr w4 := hC
            have hzr := HR.out.size
            have hbx := HR.out.hbx
            have hst := HR.out.step_ext hC'
            have hmx := HNX.out w4 w4.heap.size _ _ _ _ _ hC' (by have := HR.out.h1; omega) (fun h => by have := h.2; have := HR.out.hb1; omega) (TV_mono h8 HR.out.h3 (Nat.le_refl _)) HR.out.h2
            have HN := hid (hst.stepO rfl (Nat.le_trans HR.out.h3 hC'.size) (Nat.le_refl _) hmx)
            have y0 := (hC'.cell (lt_of_cell x0) id).trans x0
            have y1 := (hC'.cell (lt_of_cell x1) id).trans x1
            have y2 := (hC'.cell (lt_of_cell x2) id).trans x2
            have y3 := (hC'.cell (lt_of_cell x3) id).trans x3
            have y4 := (hC'.cell (lt_of_cell x4) id).trans x4
            have z0 := (hC'.frozen (p := ⟨g, j * 6 + 1, none⟩) hg2 id).trans (HFZ.out _)
            have z1 := (hC'.frozen (p := ⟨g, j * 6 + 2, none⟩) hg2 id).trans (HFZ.out _)
            have z2 := (hC'.frozen (p := ⟨g, j * 6 + 3, none⟩) hg2 id).trans (HFZ.out _)
            have z3 := (hC'.frozen (p := ⟨g, j * 6 + 4, none⟩) hg2 id).trans (HFZ.out _)
            have z4 := (hC'.frozen (p := ⟨g, j * 6 + 5, none⟩) hg2 id).trans (HFZ.out _)
            clear hC hC' hK hst hmx h8 hv8 q4 x0 x1 x2 x3 x4 hzr hbx
            (try simp only [Act.put, List.setIfInBounds_toArray, List.set_cons_zero, List.set_cons_succ])
            go_wp2_with fail
            refine NoPanic.normal ?_
            clear y0 y1 y2 y3 y4 z0 z1 z2 z3 z4
            go_wp2
            exact ⟨⟨j + 1, w4.heap.size, by omega, by go_num, HN.out⟩, by simp [intOf]; omega⟩
          · obtain rfl : j = vo.length := by omega
            have HR := hid hr
            clear hr
            have q0 := HR.out.box.cell 0
            have q1 := HR.out.box.cell 1
            have q2 := HR.out.box.cell 2
            have q3 := HR.out.box.cell 3
            have q4 := HR.out.box.cell 4
            have r0 := HR.out.res.cell 0
            have r1 := HR.out.res.cell 1
            have r2 := HR.out.res.cell 2
            have r3 := HR.out.res.cell 3
            have r4 := HR.out.res.cell 4
            have s0 := HR.out.res.frozen 0
            have s1 := HR.out.res.frozen 1
            have s2 := HR.out.res.frozen 2
            have s3 := HR.out.res.frozen 3
            have s4 := HR.out.res.frozen 4
            simp at q0 q1 q2 q3 q4 r0 r1 r2 r3 r4
            have hk := set5_keep wr (w.heap.size + 1) 0 (U8 kk) (.int .i64 nn) (.string ss) (.slice A2 vl.length c2) (.slice A5 vo.length c5)
            have hbr : Blk (set5 wr (w.heap.size + 1) 0 (U8 kk) (.int .i64 nn) (.string ss) (.slice A2 vl.length c2) (.slice A5 vo.length c5)) (w.heap.size + 1) TVAL #[U8 kk, .int .i64 nn, .string ss, .slice A2 vl.length c2, .slice A5 vo.length c5] := by
              have := ((((HR.out.res.set_ 0 (U8 kk)).set_ (0 + 1) (.int .i64 nn)).set_ (0 + 2) (.string ss)).set_ (0 + 3) (.slice A2 vl.length c2)).set_ (0 + 4) (.slice A5 vo.length c5)
              simpa using this
            have hb1' := HR.out.hb1
            have hS' := HR.out.hS
            have hBs := HR.out.size
            have hz2 := HZ2.out
            have hbx' := HR.out.hbx
            have hh1 := HR.out.h1
            have hh2 := HR.out.h2
            have hh3 := HR.out.h3
            obtain ⟨cl, hcl1, hcl2⟩ := HR.out.l.done TVs.okR HR.out.h1 (b := B) HR.out.gl fun cs h => (TVs_le _ _ _ _ h).2
            obtain ⟨co, hco1, hco2⟩ := HR.out.o.done TFs.okR HR.out.h2 (b := B) HR.out.go fun cs h => (TFs_le _ _ _ _ h).2
            have hlt1 := hbr.lt
            have hout : CopyT w v (.returned (.agg #[U8 kk, .int .i64 nn, .string ss, .slice A2 vl.length c2, .slice A5 vo.length c5])) (set5 wr (w.heap.size + 1) 0 (U8 kk) (.int .i64 nn) (.string ss) (.slice A2 vl.length c2) (.slice A5 vo.length c5)) := by
              rw [HEQ.out]
              refine ⟨_, _, rfl, ?_, HR.out.ext.trans hk fun q hq e => by omega⟩
              refine TV_mono (a := b1) (b := m2) ?_ (by omega) (Nat.le_trans hh3 hk.size)
              show TV _ (.mk kk nn ss vl vo) b1 m2 [U8 kk, .int .i64 nn, .string ss, .slice A2 vl.length c2, .slice A5 vo.length c5]
              rw [TV]
              exact ⟨_, _, cl, co, B, m1, rfl, by omega, hcl1.keep hk (fun q _ _ e => by omega), hco1.keep hk (fun q _ _ e => by omega), TVs_keep hk _ _ _ _ (fun q _ _ e => by omega) hcl2, TFs_keep hk _ _ _ _ (fun q _ _ e => by omega) hco2⟩
            have HOUT := hid hout
            have t0 := hbr.cell 0
            have t1 := hbr.cell 1
            have t2 := hbr.cell 2
            have t3 := hbr.cell 3
            have t4 := hbr.cell 4
            simp at t0 t1 t2 t3 t4
            have HT := hid (And.intro t0 (And.intro t1 (And.intro t2 (And.intro t3 t4))))
            clear t0 t1 t2 t3 t4 hcl1 hcl2 hco1 hco2 hbr hk hout
            go_wp2
            obtain ⟨t0, t1, t2, t3, t4⟩ := HT.out
            refine bodyPost_ret (v := .agg #[U8 kk, .int .i64 nn, .string ss, .slice A2 vl.length c2, .slice A5 vo.length c5]) ?_ rfl HOUT.out
            simp [results, Tryd.results53, go_sem, t0, t1, t2, t3, t4]
end Go.Proofs.YtioplgfopillnaaDoor

/- path.Get, by contract. -/
set_option linter.unusedSimpArgs false
set_option linter.unusedVariables false
namespace Go.Proofs.YtioplgfopillnaaDoor
open Go.RowKit
set_option linter.unusedVariables false

end Go.Proofs.YtioplgfopillnaaDoor

/- The law's 'Walk': a path that leads into a value. -/
set_option linter.unusedSimpArgs false
set_option linter.unusedVariables false
namespace Go.Proofs.YtioplgfopillnaaDoor
open Go.RowKit
set_option linter.unusedVariables false

theorem ty_st : TyInfo Tryd.prog 22 TSTEP 3 32 := by
  obtain ⟨i, h1, h2, h3, h4⟩ := info_parts (show (Tryd.prog.info? TSTEP).map (fun i => (i.zero, i.size, i.bytes)) = some (some (.agg #[.bool false, .int .i64 0, .string ⟨#[]⟩]), 3, 32) from by kernel_rfl)
  exact ⟨Tryd.underlying22, i, _, h1, h2, h3, h4, rfl⟩
end Go.Proofs.YtioplgfopillnaaDoor

/- slices.Clone, by contract. -/
set_option linter.unusedSimpArgs false
set_option linter.unusedVariables false
namespace Go.Proofs.YtioplgfopillnaaDoor
open Go.RowKit
set_option linter.unusedVariables false

set_option maxHeartbeats 400000 in
theorem clone_steps (v : Value) (l : List _) (S : BS) (w : World) (hv : Sl ESt w S v l) (hl : l.length ≤ 1000000) (hSr : ∀ k, S k → k < w.heap.size) :
    Calls Tryd.prog 52 #[v] w fun e w' => ∃ v', e = .returned v' ∧ Own ESt w' w.heap.size TSTEP S v' l ∧ Ext w w' := by
  obtain ⟨A, c, rfl, h1, h2⟩ := hv.shape
  unfold maxLen at h2
  cases A with
  | none =>
    have hn : l = [] := by
      obtain ⟨cs, ⟨_, A', c', e, _, _, h3⟩, _⟩ := hv
      rcases Nat.eq_zero_or_pos l.length with h0 | h0
      · exact List.eq_nil_of_length_eq_zero h0
      · obtain ⟨b, off, e', _⟩ := h3 h0
        injection e with e1 _ _
        rw [e'] at e1
        cases e1
    subst hn
    have heq := Lib.run_eql_slice_nil (P := Tryd.prog) w 22 TSTEP none 0 c 0 0 Tryd.underlying22
    rw [List.length_nil]
    go_enter Tryd.func52, Tryd.ntmps52
    go_wp2
    go_ret
    exact ⟨_, rfl, Own.nil _ _ _ _, Keep.refl _ _⟩
  | some a =>
    have heq := Lib.run_eql_slice_nil (P := Tryd.prog) w 22 TSTEP (some a) l.length c 0 0 Tryd.underlying22
    have hown : Own ESt (w.alloc (.cells #[] TSTEP)) w.heap.size TSTEP (fun _ => False) (.slice (some ⟨w.heap.size, 0, none⟩) 0 0) [] :=
      .inr ⟨w.heap.size, 0, #[], rfl, Nat.le_refl _, Blk.new _ _ _, by simp, by simp [maxLen], by simp, rfl⟩
    have hsrc := hv.ext ESt.ok ((Keep.refl _ _).alloc (.cells #[] TSTEP))
    have HSr := hid hSr
    clear hSr
    go_enter Tryd.func52, Tryd.ntmps52
    go_wp2_with (at_builtin; refine wpList_own_append _ rfl (.tmp 5) (.tmp 6) ESt.ok ty_st rfl rfl rfl hown hsrc ?c1 ?c2 ?c3 ?c4 ?_)
    case c1 => intro g hg; have hg : w.heap.size = g := Option.some.inj hg; exact ⟨id, fun h => by have := HSr.out _ h; omega⟩
    case c2 => simp; omega
    case c3 => simp [maxLen]; omega
    case c4 => simp
    intro v' w' hown' hk hb
    have hE : Ext w w' := ((Keep.refl (fun _ => False) w).alloc _).trans hk (fun k hlt e => by have e : w.heap.size = k := Option.some.inj e; omega)
    have H := hid (hown'.more (S' := S) ESt.ok (fun k _ h => by first | exact h | exact Or.elim h False.elim id))
    clear hown' hb hsrc hown
    go_wp2
    go_ret
    exact ⟨_, rfl, H.out, hE⟩
end Go.Proofs.YtioplgfopillnaaDoor

/- The reference's Same at any two values. -/
set_option linter.unusedSimpArgs false
set_option linter.unusedVariables false
namespace Go.Proofs.YtioplgfopillnaaDoor
open Go.RowKit
set_option linter.unusedVariables false

end Go.Proofs.YtioplgfopillnaaDoor

/- path.Begins, by contract. -/
set_option linter.unusedSimpArgs false
set_option linter.unusedVariables false
namespace Go.Proofs.YtioplgfopillnaaDoor
open Go.RowKit
set_option linter.unusedVariables false

set_option maxHeartbeats 1600000 in
theorem equal_st (w : World) (S S2 : BS) (v u : Value) (p q : List St) (h : Sl ESt w S v p) (h2 : Sl ESt w S2 u q) :
    Calls Tryd.prog 54 #[v, u] w fun e w' => ((e = .returned (.bool true) ∧ p = q) ∨ (e = .returned (.bool false) ∧ p ≠ q)) ∧ Ext w w' := by
  obtain ⟨A, c, rfl, hlc, hcm⟩ := h.shape
  obtain ⟨A2, c2, rfl, hlc2, hcm2⟩ := h2.shape
  unfold maxLen at hcm hcm2
  have HA := hid h
  have HB := hid h2
  clear h h2
  by_cases hlen : p.length = q.length
  · have HLEN := hid hlen
    have hlenX : ((p.length : Int) != q.length) = false := by rw [hlen]; simp
    go_enter Tryd.func54, Tryd.ntmps54
    clear hlen
    go_wp2
    clear hlenX
    go_loopw [13] (fun i wr => ∃ j : Nat, j ≤ p.length ∧ i = .int .i64 j ∧ p.take j = q.take j ∧ Ext w wr) (fun i _ => p.length - (intOf i).toNat)
    case atStart => exact ⟨0, by omega, rfl, rfl, Keep.refl _ _⟩
    case round =>
      obtain ⟨j, hj, rfl, hpq, hE⟩ := hrel
      have HPQ := hid hpq
      clear hpq
      by_cases hlt : j < p.length
      · have hlt2 : j < q.length := by have := HLEN.out; omega
        obtain ⟨b1, o1, c0, rfl, _, _, hrd, hcell⟩ := (HA.out.ext ESt.ok hE).at_ ESt.ok hlt
        obtain ⟨b2, o2, c3, rfl, _, _, hrd2, hcell2⟩ := (HB.out.ext ESt.ok hE).at_ ESt.ok hlt2
        have HN := hid (And.intro (take_succ_get p j hlt) (take_succ_get q j hlt2))
        have HD := hid (fun (e : p = q) => (show p[j] = q[j] from by subst e; rfl))
        generalize p[j] = s at *
        generalize q[j] = t at *
        obtain rfl : c0 = [.bool s.list, .int .i64 s.i, .string s.key] := hrd
        obtain rfl : c3 = [.bool t.list, .int .i64 t.i, .string t.key] := hrd2
        have e0 := hcell 0 _ rfl
        have e1 := hcell 1 _ rfl
        have e2 := hcell 2 _ rfl
        have d0 := hcell2 0 _ rfl
        have d1 := hcell2 1 _ rfl
        have d2 := hcell2 2 _ rfl
        have hz : ESt.size = 3 := rfl
        simp only [hz, Nat.add_zero] at e0 e1 e2 d0 d1 d2
        have HE := hid hE
        clear hz hcell hcell2 hE
        by_cases g1 : s.list = t.list
        · by_cases g2 : s.i = t.i
          · by_cases g3 : s.key.toList = t.key.toList
            · have HST := hid (show s = t from by
                cases s; cases t
                simp only at g1 g2 g3
                rw [g1, g2, key_eq g3])
              go_wp2_with fail
              refine wp_region_grow (specOf []) (fun w' => Ext wr w') stable_nil (stableC_ext _) (by kernel_rfl) (by kernel_rfl) (Keep.drew (Keep.refl _ _)) ?_
              iterate 9
                (try simp only [Act.put, List.setIfInBounds_toArray, List.set_cons_zero, List.set_cons_succ])
                refine grow_run rfl rfl rfl ?_
                apply Exists.intro
                refine ⟨fun w' hC hK => ?_, ?_⟩
                · have e0 := (hC.cell (lt_of_cell e0) id).trans e0
                  have e1 := (hC.cell (lt_of_cell e1) id).trans e1
                  have e2 := (hC.cell (lt_of_cell e2) id).trans e2
                  have d0 := (hC.cell (lt_of_cell d0) id).trans d0
                  have d1 := (hC.cell (lt_of_cell d1) id).trans d1
                  have d2 := (hC.cell (lt_of_cell d2) id).trans d2
                  go_simp
                  rfl
              refine grow_nil fun w5 hC _ => ?_
              have HE5 := hid (HE.out.ext (show Ext wr w5 from hC))
              clear hC e0 e1 e2 d0 d1 d2
              go_wp2
              go_roundw
              case rel => exact ⟨j + 1, by omega, by go_num, by rw [HN.out.1, HN.out.2, HPQ.out, HST.out], HE5.out⟩
              case measure => simp [intOf]; omega
            · have HNE := hid (show s ≠ t from fun e => g3 (by rw [e]))
              go_wp2_with fail
              refine wp_region_grow (specOf []) (fun w' => Ext wr w') stable_nil (stableC_ext _) (by kernel_rfl) (by kernel_rfl) (Keep.drew (Keep.refl _ _)) ?_
              iterate 9
                (try simp only [Act.put, List.setIfInBounds_toArray, List.set_cons_zero, List.set_cons_succ])
                refine grow_run rfl rfl rfl ?_
                apply Exists.intro
                refine ⟨fun w' hC hK => ?_, ?_⟩
                · have e0 := (hC.cell (lt_of_cell e0) id).trans e0
                  have e1 := (hC.cell (lt_of_cell e1) id).trans e1
                  have e2 := (hC.cell (lt_of_cell e2) id).trans e2
                  have d0 := (hC.cell (lt_of_cell d0) id).trans d0
                  have d1 := (hC.cell (lt_of_cell d1) id).trans d1
                  have d2 := (hC.cell (lt_of_cell d2) id).trans d2
                  go_simp
                  rfl
              refine grow_nil fun w5 hC _ => ?_
              have HE5 := hid (HE.out.ext (show Ext wr w5 from hC))
              clear hC e0 e1 e2 d0 d1 d2
              go_wp2
              go_ret
              exact ⟨.inr ⟨rfl, fun e => HNE.out (HD.out e)⟩, HE5.out⟩
          · have HNE := hid (show s ≠ t from fun e => g2 (by rw [e]))
            go_wp2_with fail
            refine wp_region_grow (specOf []) (fun w' => Ext wr w') stable_nil (stableC_ext _) (by kernel_rfl) (by kernel_rfl) (Keep.drew (Keep.refl _ _)) ?_
            iterate 9
              (try simp only [Act.put, List.setIfInBounds_toArray, List.set_cons_zero, List.set_cons_succ])
              refine grow_run rfl rfl rfl ?_
              apply Exists.intro
              refine ⟨fun w' hC hK => ?_, ?_⟩
              · have e0 := (hC.cell (lt_of_cell e0) id).trans e0
                have e1 := (hC.cell (lt_of_cell e1) id).trans e1
                have e2 := (hC.cell (lt_of_cell e2) id).trans e2
                have d0 := (hC.cell (lt_of_cell d0) id).trans d0
                have d1 := (hC.cell (lt_of_cell d1) id).trans d1
                have d2 := (hC.cell (lt_of_cell d2) id).trans d2
                go_simp
                rfl
            refine grow_nil fun w5 hC _ => ?_
            have HE5 := hid (HE.out.ext (show Ext wr w5 from hC))
            clear hC e0 e1 e2 d0 d1 d2
            go_wp2
            go_ret
            exact ⟨.inr ⟨rfl, fun e => HNE.out (HD.out e)⟩, HE5.out⟩
        · have HNE := hid (show s ≠ t from fun e => g1 (by rw [e]))
          go_wp2_with fail
          refine wp_region_grow (specOf []) (fun w' => Ext wr w') stable_nil (stableC_ext _) (by kernel_rfl) (by kernel_rfl) (Keep.drew (Keep.refl _ _)) ?_
          iterate 9
            (try simp only [Act.put, List.setIfInBounds_toArray, List.set_cons_zero, List.set_cons_succ])
            refine grow_run rfl rfl rfl ?_
            apply Exists.intro
            refine ⟨fun w' hC hK => ?_, ?_⟩
            · have e0 := (hC.cell (lt_of_cell e0) id).trans e0
              have e1 := (hC.cell (lt_of_cell e1) id).trans e1
              have e2 := (hC.cell (lt_of_cell e2) id).trans e2
              have d0 := (hC.cell (lt_of_cell d0) id).trans d0
              have d1 := (hC.cell (lt_of_cell d1) id).trans d1
              have d2 := (hC.cell (lt_of_cell d2) id).trans d2
              go_simp
              rfl
          refine grow_nil fun w5 hC _ => ?_
          have HE5 := hid (HE.out.ext (show Ext wr w5 from hC))
          clear hC e0 e1 e2 d0 d1 d2
          go_wp2
          go_ret
          exact ⟨.inr ⟨rfl, fun e => HNE.out (HD.out e)⟩, HE5.out⟩
      · obtain rfl : j = p.length := by omega
        have HE := hid hE
        clear hE
        go_wp2
        go_ret
        refine ⟨.inl ⟨rfl, ?_⟩, HE.out⟩
        have := HPQ.out
        rw [List.take_length, HLEN.out, List.take_length] at this
        exact this
  · have hlenX : ((p.length : Int) != q.length) = true := by simp; omega
    have HNE := hid (show p ≠ q from fun e => hlen (by rw [e]))
    clear hlen
    go_enter Tryd.func54, Tryd.ntmps54
    go_wp2
    go_ret
    exact ⟨.inr ⟨rfl, HNE.out⟩, Keep.refl _ _⟩

/-- Begins. -/
def BegIs (p q : List St) (w : World) (e : Ending) (w' : World) : Prop := ((e = .returned (.bool true) ∧ q <+: p) ∨ (e = .returned (.bool false) ∧ ¬ q <+: p)) ∧ Ext w w'
set_option maxHeartbeats 1600000 in
theorem begins_ok (w : World) (S S2 : BS) (v u : Value) (p q : List St) (h : Sl ESt w S v p) (h2 : Sl ESt w S2 u q) :
    Calls Tryd.prog 26 #[v, u] w (BegIs p q w) := by
  obtain ⟨A, c, rfl, hlc, hcm⟩ := h.shape
  obtain ⟨A2, c2, rfl, hlc2, hcm2⟩ := h2.shape
  unfold maxLen at hcm hcm2
  by_cases hlen : q.length ≤ p.length
  · obtain ⟨r1, f1⟩ := front_fact (P := Tryd.prog) ESt.ok ty_st h (b := (q.length : Int)) rfl hlen
    have hEQ := equal_st w S S2 _ _ (p.take q.length) q f1 h2
    have HEQ := hid hEQ
    have hlX : (q.length : Int) ≤ p.length := by omega
    have HP := hid (show p.take q.length = q ↔ q <+: p from ⟨fun e => by rw [← e]; exact List.take_prefix _ _, fun h => (List.prefix_iff_eq_take.1 h).symm⟩)
    clear h h2 hEQ f1 hlen
    go_enter Tryd.func26, Tryd.ntmps26
    go_wp2_with fail
    refine HEQ.out.mono ?_
    rintro e w2 ⟨⟨rfl, he⟩ | ⟨rfl, he⟩, hE⟩
    · have HR := hid (show BegIs p q w (.returned (.bool true)) w2 from ⟨.inl ⟨rfl, HP.out.1 he⟩, hE⟩)
      clear he hE
      go_wp2
      go_ret
      exact HR.out
    · have HR := hid (show BegIs p q w (.returned (.bool false)) w2 from ⟨.inr ⟨rfl, fun h => he (HP.out.2 h)⟩, hE⟩)
      clear he hE
      go_wp2
      go_ret
      exact HR.out
  · have hlX : ¬ (q.length : Int) ≤ p.length := by omega
    have HR := hid (show BegIs p q w (.returned (.bool false)) w from ⟨.inr ⟨rfl, fun h => hlen h.length_le⟩, Keep.refl _ _⟩)
    clear h h2 hlen
    go_enter Tryd.func26, Tryd.ntmps26
    go_wp2
    go_ret
    exact HR.out
end Go.Proofs.YtioplgfopillnaaDoor

/- path.Sound over a contract of its closure. -/
set_option linter.unusedSimpArgs false
set_option linter.unusedVariables false
namespace Go.Proofs.YtioplgfopillnaaDoor
open Go.RowKit
set_option linter.unusedVariables false

end Go.Proofs.YtioplgfopillnaaDoor

/- The law's example of chapter 03. -/
set_option linter.unusedSimpArgs false
set_option linter.unusedVariables false
namespace Go.Proofs.YtioplgfopillnaaDoor
open Go.RowKit
set_option linter.unusedVariables false

end Go.Proofs.YtioplgfopillnaaDoor

/- The law's 'heavy' of chapter 03. -/
set_option linter.unusedSimpArgs false
set_option linter.unusedVariables false
namespace Go.Proofs.YtioplgfopillnaaDoor
open Go.RowKit
set_option linter.unusedVariables false

end Go.Proofs.YtioplgfopillnaaDoor

/- The plain law of chapter 03: what is put, and got. No program. -/
set_option linter.unusedSimpArgs false
set_option linter.unusedVariables false
namespace Go.Proofs.YtioplgfopillnaaDoor
open Go.RowKit

end Go.Proofs.YtioplgfopillnaaDoor

/- path.at with a function of the caller's, by contract. -/
set_option linter.unusedSimpArgs false
set_option linter.unusedVariables false
namespace Go.Proofs.YtioplgfopillnaaDoor
open Go.RowKit
set_option linter.unusedVariables false

end Go.Proofs.YtioplgfopillnaaDoor
