/- The reference's network: New, there, lent, Send. -/
import Derived.Test.YtjpbfdkpkeaofaaNetLateW
set_option linter.unusedSimpArgs false
set_option linter.unusedVariables false
namespace Go.Proofs.Ytjpbfdkpkeaofaa
open Go.RowKit
set_option linter.unusedVariables false

abbrev TRNET : Nat := 42
/-- The reference's network at block bn, its messages in block g (none: there is no block yet), their bytes in S. -/
def RnAt (w : World) (S : BS) (bn : Nat) (g : Option Nat) (ms : List Mail) : Prop :=
  ∃ va, Blk w bn TRNET #[va] ∧ va.ownBlock = g ∧ Own EMail w (bn + 1) TMAIL S va ms ∧ ¬ S bn ∧ ∀ k, g = some k → ¬ S k
theorem RnAt.keep {F : Nat → Prop} {w w' : World} {S : BS} {bn : Nat} {g : Option Nat} {ms : List Mail} (h : RnAt w S bn g ms) (hk : Keep F w w') (hS : ∀ k, S k → ¬ F k) (hF : ∀ k, NF bn g k → ¬ F k) : RnAt w' S bn g ms := by
  obtain ⟨va, h1, h2, h3, h4, h5⟩ := h
  exact ⟨va, h1.keep hk (hF bn (.inl rfl)), h2, h3.keep EMail.ok hk hS (fun k e => hF k (.inr (h2.symm.trans e))), h4, h5⟩
theorem RnAt.ext {w w' : World} {S : BS} {bn : Nat} {g : Option Nat} {ms : List Mail} (h : RnAt w S bn g ms) (hk : Ext w w') : RnAt w' S bn g ms := h.keep hk (fun _ _ x => x) (fun _ _ x => x)
theorem RnAt.lt {w : World} {S : BS} {bn : Nat} {g : Option Nat} {ms : List Mail} (h : RnAt w S bn g ms) : bn < w.heap.size ∧ ∀ k, g = some k → bn < k ∧ k < w.heap.size := by
  obtain ⟨va, h1, h2, h3, h4, h5⟩ := h
  exact ⟨h1.lt, fun k e => by have := h3.lt (h2.trans e); exact ⟨this.1, this.2⟩⟩
theorem RnAt.more {w : World} {S S' : BS} {bn : Nat} {g : Option Nat} {ms : List Mail} (h : RnAt w S bn g ms) (hS : ∀ k, k < w.heap.size → S k → S' k) (hb : ¬ S' bn) (hg : ∀ k, g = some k → ¬ S' k) : RnAt w S' bn g ms := by
  obtain ⟨va, h1, h2, h3, h4, h5⟩ := h
  exact ⟨va, h1, h2, h3.more EMail.ok hS, hb, hg⟩
theorem RnAt.notS {w : World} {S : BS} {bn : Nat} {g : Option Nat} {ms : List Mail} (h : RnAt w S bn g ms) : ¬ S bn ∧ ∀ k, g = some k → ¬ S k := by
  obtain ⟨va, h1, h2, h3, h4, h5⟩ := h
  exact ⟨h4, h5⟩
theorem RnAt.cutS {w : World} {S : BS} {bn : Nat} {g : Option Nat} {ms : List Mail} (h : RnAt w S bn g ms) : RnAt w (fun k => S k ∧ k < w.heap.size) bn g ms :=
  h.more (fun k hk hs => ⟨hs, hk⟩) (fun x => h.notS.1 x.1) (fun k e x => h.notS.2 k e x.1)

set_option maxHeartbeats 400000 in
theorem rnew_ok (w : World) : Calls Try.prog 13 #[] w fun e w' => e = .returned (.pointer (some ⟨w.heap.size, 0, none⟩)) ∧ RnAt w' (fun _ => False) w.heap.size none [] ∧ Ext w w' := by
  have h : RnAt (w.alloc (.cells #[.slice none 0 0] TRNET)) (fun _ => False) w.heap.size none [] := ⟨_, Blk.new _ _ _, rfl, Own.nil _ _ _ _, id, fun _ h => by cases h⟩
  have H := hid h
  have hE : Ext w (w.alloc (.cells #[.slice none 0 0] TRNET)) := (Keep.refl _ _).alloc _
  clear h
  go_enter Try.func13, Try.ntmps13
  go_wp2
  go_ret
  exact ⟨rfl, H.out, hE⟩
set_option maxHeartbeats 400000 in
theorem there_ok (w : World) (S : BS) (bn : Nat) (g : Option Nat) (ms : List Mail) (i : Int) (b : Bool) (h : RnAt w S bn g ms) (hb : decide (0 ≤ i ∧ i < (ms.length : Int)) = b) :
    Calls Try.prog 34 #[.pointer (some ⟨bn, 0, none⟩), .int .i64 i] w fun e w' => e = .returned (.bool b) ∧ w = w' := by
  obtain ⟨va, h1, h2, h3, h4, h5⟩ := h
  obtain ⟨A, c, rfl, _⟩ := h3.shape
  have c0 := h1.cell 0
  simp at c0
  clear h1 h3
  by_cases hi : i < 0
  · obtain rfl : b = false := by rw [← hb]; simp; omega
    have hi' : ¬ 0 ≤ i := by omega
    go_enter Try.func34, Try.ntmps34
    go_wp2
    go_ret
    exact ⟨rfl, rfl⟩
  · have hi' : 0 ≤ i := by omega
    have hb' : decide (i < (ms.length : Int)) = b := by rw [← hb]; simp [hi']
    go_enter Try.func34, Try.ntmps34
    go_wp2
    go_ret
    exact ⟨rfl, rfl⟩

set_option maxHeartbeats 1000000 in
/-- 'lent'. -/
theorem rlent_mail (s : Int) (u : Bool) (bv : Value) (l : List UInt8) (S : BS) (w : World) (hv : BytesS w S bv l) (hl : l.length ≤ 60000) :
    Calls Try.prog 35 #[.agg #[.int .i64 s, .bool u, bv]] w fun e w' => ∃ bv', e = .returned (.agg #[.int .i64 s, .bool u, bv']) ∧ BytesS w' (fun k => w.heap.size ≤ k) bv' l ∧ Ext w w' := by
  have hv1 := ((hv.more (S' := fun k => S k ∧ k < w.heap.size) EU8.ok (fun k hk hs => ⟨hs, hk⟩)).ext EU8.ok (((Keep.refl _ _).alloc (.cells #[.int .i64 s, .bool u, bv] TMAIL)).alloc (.cells #[.int .i64 0, .bool false, .slice none 0 0] TMAIL)))
  obtain ⟨A, c, rfl, hc, _⟩ := hv.shape
  obtain ⟨w1, hw1⟩ : ∃ w1, (w.alloc (.cells #[.int .i64 s, .bool u, .slice A l.length c] TMAIL)).alloc (.cells #[.int .i64 0, .bool false, .slice none 0 0] TMAIL) = w1 := ⟨_, rfl⟩
  have b1 : Blk w1 w.heap.size TMAIL #[.int .i64 s, .bool u, .slice A l.length c] := by rw [← hw1]; exact (Blk.new w TMAIL _).alloc _
  have b2 : Blk w1 (w.heap.size + 1) TMAIL #[.int .i64 0, .bool false, .slice none 0 0] := by
    rw [← hw1]
    have h := (Blk.new (w.alloc (.cells #[.int .i64 s, .bool u, .slice A l.length c] TMAIL)) TMAIL #[.int .i64 0, .bool false, .slice none 0 0])
    simpa using h
  have hE0 : Ext w w1 := by rw [← hw1]; exact ((Keep.refl _ _).alloc _).alloc _
  have hz1 : w1.heap.size = w.heap.size + 2 := by rw [← hw1]; simp
  rw [hw1] at hv1
  have c2 := b1.cell 2
  simp at c2
  go_enter Try.func35, Try.ntmps35
  go_wp2_with (at_builtin; refine wpList_own_append _ rfl (.tmp 4) (.tmp 6) EU8.ok ty_u8 rfl rfl rfl (Own.nil _ w1.heap.size _ (fun _ => False)) hv1 ?c1 ?c2 ?c3 ?c4 ?_)
  case c1 => intro g hg; cases hg
  case c2 => simp; omega
  case c3 => simp [maxLen]; omega
  case c4 => exact Nat.le_refl _
  intro v' w2 hown hk hb
  have hE1 : Ext w1 w2 := hk.mono fun q _ e => by cases e
  have hout : BytesS w2 (fun k => w1.heap.size ≤ k) v' l := by
    obtain ⟨cs, h1, h2⟩ := hown.rowS EU8.ok
    refine ⟨cs, h1.more fun k _ e => by have := (hown.lt e).1; omega, ?_⟩
    rw [cells_U8 h2]
    exact U8_cells _
  replace b1 := b1.keep hE1 id
  replace b2 := b2.keep hE1 id
  have hz := hE1.size
  have c0 := b1.cell 0
  have c1 := b1.cell 1
  have c2 := b1.cell 2
  have f2 := b1.frozen 2
  have d0 := b2.cell 0
  have d1 := b2.cell 1
  have d2 := b2.cell 2
  have g0 := b2.frozen 0
  have g1 := b2.frozen 1
  have g2 := b2.frozen 2
  simp at c0 c1 c2 d0 d1 d2
  obtain ⟨A', c', rfl, _⟩ := hout.shape
  have HB := hid (hout.more (S' := fun k => w.heap.size + 2 ≤ k) EU8.ok (fun k _ h => by omega))
  have HE := hid (hE0.ext hE1)
  clear hout hE1 hv1 hv b1 b2 hown hk hb hE0 hz1 hz
  go_wp2
  have hK : Keep (fun k => w.heap.size ≤ k ∧ k < w.heap.size + 2) w2 ((((w2.setCell ⟨w.heap.size, 2, none⟩ (.slice A' l.length c')).setCell ⟨w.heap.size + 1, 0, none⟩ (.int .i64 s)).setCell ⟨w.heap.size + 1, 1, none⟩ (.bool u)).setCell ⟨w.heap.size + 1, 2, none⟩ (.slice A' l.length c')) :=
    ((((Keep.refl _ _).setAt (fun _ => by omega) _ _).setAt (fun _ => by omega) _ _).setAt (fun _ => by omega) _ _).setAt (fun _ => by omega) _ _
  refine bodyPost_ret (v := .agg #[.int .i64 s, .bool u, .slice A' l.length c']) (by simp [results, Try.results35, go_sem, d0, d1, d2]) rfl ⟨_, rfl, ?_, ?_⟩
  · exact (HB.out.keep EU8.ok hK (fun k h1 h2 => by omega)).more EU8.ok (fun k _ h => by omega)
  · exact HE.out.trans hK (fun k h1 h2 => by omega)
set_option maxHeartbeats 800000 in
/-- 'Send', there being room, the message not too long. -/
theorem rsend_yes (w : World) (S Sm : BS) (bn : Nat) (g : Option Nat) (ms : List Mail) (m : Mail) (bv : Value) (h : RnAt w S bn g ms) (hm : BytesS w Sm bv m.b) (h1 : ms.length < 2000) (h2 : m.b.length ≤ 60000) :
    Calls Try.prog 29 #[.pointer (some ⟨bn, 0, none⟩), .agg #[.int .i64 m.sess, .bool m.up, bv]] w fun e w' =>
      e = .returned (.bool true) ∧ ∃ g', RnAt w' (SNew w S g') bn g' (ms ++ [m]) ∧ (g' = g ∨ ∃ k, g' = some k ∧ w.heap.size ≤ k) ∧ Keep (NF bn g) w w' := by
  obtain ⟨A, c, rfl, hlc, hcm⟩ := hm.shape
  unfold maxLen at hcm
  have hbn0 := h.lt.1
  have hE1 : Ext w (w.alloc (.cells #[.int .i64 m.sess, .bool m.up, .slice A m.b.length c] TMAIL)) := (Keep.refl _ _).alloc _
  have hbox : Blk (w.alloc (.cells #[.int .i64 m.sess, .bool m.up, .slice A m.b.length c] TMAIL)) w.heap.size TMAIL #[.int .i64 m.sess, .bool m.up, .slice A m.b.length c] := Blk.new _ _ _
  have hn1 := h.ext hE1
  have hm1 := hm.ext EU8.ok hE1
  have hz1 : (w.alloc (.cells #[.int .i64 m.sess, .bool m.up, .slice A m.b.length c] TMAIL)).heap.size = w.heap.size + 1 := by simp
  have hlen : (m.b.length : Int) ≤ 60000 := by omega
  obtain ⟨w1, hw1⟩ : ∃ w1, w.alloc (.cells #[.int .i64 m.sess, .bool m.up, .slice A m.b.length c] TMAIL) = w1 := ⟨_, rfl⟩
  rw [hw1] at hE1 hbox hn1 hm1 hz1
  have HW1 := hid hw1
  have hns : ¬ (2000 : Int) ≤ (ms.length : Int) := by omega
  have c0 := hbox.cell 0
  have c1 := hbox.cell 1
  have c2 := hbox.cell 2
  simp at c0 c1 c2
  obtain ⟨va, hb, hg, hown, hSb, hSg⟩ := hn1
  obtain ⟨Aa, ca, rfl, hla, hca⟩ := hown.shape
  have d0 := hb.cell 0
  simp at d0
  go_enter Try.func29, Try.ntmps29
  go_wp2_with fail
  refine wp_region_parts [0, 1, 2, 3] [4, 5, 6, 7] [8, 9, 10, 11] (specOf [(6, fun v w' => ∃ bv', v = .agg #[.int .i64 m.sess, .bool m.up, bv'] ∧ BytesS w' (fun k => w1.heap.size ≤ k) bv' m.b), (7, fun v w' => SlShape EMail w' (fun k => w1.heap.size ≤ k) v 1 [m])])
    (fun w' => Ext w1 w') ?_ (stableC_ext _) (by kernel_rfl) (by kernel_rfl) (Keep.drew (Keep.refl _ _)) ?_
  · exact stable_cons (fun v w w' ⟨b, h1, h2⟩ he => ⟨b, h1, h2.ext EU8.ok he⟩) (stable_cons (fun v w w' h he => h.ext EMail.ok he) stable_nil)
  iterate 4
    (try simp only [Act.put, List.setIfInBounds_toArray, List.set_cons_zero, List.set_cons_succ])
    refine pure_run rfl rfl ?_
    apply Exists.intro
    refine ⟨fun w' => ?_, ?_⟩
    · go_simp
      rfl
  refine pure_nil ?_
  iterate 2
    (try simp only [Act.put, List.setIfInBounds_toArray, List.set_cons_zero, List.set_cons_succ])
    refine growP_run rfl rfl rfl ?_
    apply Exists.intro
    refine ⟨fun w' hC hK => ?_, ?_⟩
    · have e0 := (hC.cell (lt_of_cell d0) id).trans d0
      have e1 := (hC.cell (lt_of_cell c0) id).trans c0
      have e2 := (hC.cell (lt_of_cell c1) id).trans c1
      have e3 := (hC.cell (lt_of_cell c2) id).trans c2
      go_simp
      rfl
  simp only [Act.put, List.setIfInBounds_toArray, List.set_cons_zero, List.set_cons_succ]
  refine growP_eff rfl rfl rfl (fun w' hC hK => ?_) (fun v6 hv6 => ?_)
  · unfold growAt
    go_simp
    refine grow_call ((rlent_mail _ _ _ _ _ _ (hm1.ext EU8.ok hC) (by omega)).mono fun e w'' ⟨b', h1, h2, h3⟩ => ⟨_, h1, h3, b', rfl, h2.more EU8.ok fun k _ h => by have := hC.size; omega⟩)
  obtain ⟨_, _, b6, rfl, _⟩ := hv6.head
  simp only [Act.put, List.setIfInBounds_toArray, List.set_cons_zero, List.set_cons_succ]
  refine growP_eff rfl rfl rfl (fun w' hC hK => ?_) (fun v7 hv7 => ?_)
  · unfold growAt
    go_simp
    obtain ⟨b', e, hb'⟩ := hK.get (i := 6) List.mem_cons_self (by kernel_rfl)
    have hb6 : BytesS w' (fun k => w1.heap.size ≤ k) b6 m.b := by
      simp only [Value.agg.injEq] at e
      simp at e
      rw [e]; exact hb'
    refine ⟨(Keep.refl _ _).alloc _, _, _, rfl, [_, _, _], ?_, Cells.single ⟨b6, rfl, ?_⟩⟩
    · exact (RowS.new (sz := 3) (cs := [_, _, _]) (n := 1) rfl (by simp [maxLen])).more fun k _ e => by have := hC.size; show w.heap.size + 1 ≤ k; omega
    · have := hb6.ext EU8.ok ((Keep.refl _ _).alloc (.cells #[.int .i64 m.sess, .bool m.up, b6] TMAIL))
      rwa [hz1] at this
  obtain ⟨_, _, A7, c7, rfl, _⟩ := hv7.head
  refine growP_nil fun w' hC hK => ?_
  obtain ⟨_, _, _, f7⟩ : SlShape EMail w' (fun k => w1.heap.size ≤ k) (.slice A7 1 c7) 1 [m] := hK (7, _) List.mem_cons_self
  change wpList _ _ _ (_ :: _ :: _ :: _ :: []) _ _
  have hown' := (hown.ext EMail.ok hC).more (S' := fun k => S k ∧ k < w'.heap.size) EMail.ok (fun k h1 h2 => ⟨h2, h1⟩)
  have hsrc := f7.more (S' := fun k => w1.heap.size ≤ k ∧ k < w'.heap.size) EMail.ok (fun k h1 h2 => ⟨h2, h1⟩)
  have hzC := hC.size
  have hgl : ∀ k, (Value.slice Aa ms.length ca).ownBlock = some k → bn < k ∧ k < w1.heap.size := fun k e => by have := hown.lt e; exact ⟨this.1, this.2⟩
  have hbn := hb.lt
  clear hv6 hv7 hK f7
  (try simp only [Act.put, List.setIfInBounds_toArray, List.set_cons_zero, List.set_cons_succ])
  refine wpList_own_append (P := Try.prog) (E := EMail) (v := .slice Aa ms.length ca) (y := .slice A7 1 c7) w' rfl (.tmp 21) (.tmp 24) EMail.ok ty_mail ?_ ?_ ?_ hown' hsrc ?_ ?_ ?_ (by omega) ?_
  · rfl
  · rfl
  · rfl
  · exact fun k e => ⟨fun h => hSg k (hg.symm.trans e) h.1, fun h => by have := hgl k e; omega⟩
  · have : ([m] : List Mail).length = 1 := rfl
    rw [this]; omega
  · have : ([m] : List Mail).length = 1 := rfl
    rw [this]; simp only [maxLen]; omega
  intro v8 w8 hown8 hk8 hb8
  obtain ⟨A8, c8, e8, h8⟩ := hown8.shape
  have hl8 : (ms ++ [m]).length = ms.length + 1 := by simp
  rw [hl8] at e8
  subst e8
  have hbk : Blk w8 bn TRNET #[.slice Aa ms.length ca] := (hb.keep hC id).keep hk8 (fun e => by have := hgl bn e; omega)
  have e0 := hbk.cell 0
  have e1 := hbk.frozen 0
  simp at e0
  have hz8 := hk8.size
  have hgn : ∀ k, (Value.slice A8 (ms.length + 1) c8).ownBlock = some k → k = bn → False := fun k e1 e2 => by
    have := (hown8.lt e1).1; omega
  have hnet : RnAt (w8.setCell ⟨bn, 0, none⟩ (.slice A8 (ms.length + 1) c8)) (SNew w S (Value.slice A8 (ms.length + 1) c8).ownBlock) bn (Value.slice A8 (ms.length + 1) c8).ownBlock (ms ++ [m]) := by
    have hkk : Keep (fun k => k = bn) w8 (w8.setCell ⟨bn, 0, none⟩ (.slice A8 (ms.length + 1) c8)) := (Keep.refl _ _).set1 0 _
    refine ⟨_, hbk.set_ 0 _, rfl, ((hown8.keep EMail.ok hkk ?_ ?_).more EMail.ok ?_), ?_, ?_⟩
    · intro k hh e9
      subst e9
      rcases hh with hh | hh
      · exact hSb hh.1
      · omega
    · exact fun k e e2 => hgn k e e2
    · rintro k _ (h | h)
      · rcases Nat.lt_or_ge k w.heap.size with hk | hk
        · exact .inl ⟨h.1, hk⟩
        · refine .inr ⟨hk, fun e => ?_⟩
          rcases hb8 with h9 | h9
          · rw [h9] at e; exact hSg k (hg.symm.trans e) h.1
          · rw [h9] at e; injection e with e; omega
      · refine .inr ⟨by omega, fun e => ?_⟩
        rcases hb8 with h9 | h9
        · rw [h9] at e; have := hgl k e; omega
        · rw [h9] at e; injection e with e; omega
    · rintro (h | h)
      · exact hSb h.1
      · have := h.1; omega
    · rintro k e (h | h)
      · rcases hb8 with h9 | h9
        · rw [h9] at e; exact hSg k (hg.symm.trans e) h.1
        · rw [h9] at e; injection e with e; omega
      · exact h.2 e
  have hkeep : Keep (NF bn g) w (w8.setCell ⟨bn, 0, none⟩ (.slice A8 (ms.length + 1) c8)) := by
    have k1 : Keep (NF bn g) w w8 := (Keep.mono (hE1.ext hC) (fun _ _ x => x.elim)).trans hk8 (fun k _ e => .inr (hg.symm.trans e))
    exact k1.setAt (fun _ => .inl rfl) 0 _
  have hres : (Value.slice A8 (ms.length + 1) c8).ownBlock = g ∨ ∃ k, (Value.slice A8 (ms.length + 1) c8).ownBlock = some k ∧ w.heap.size ≤ k := by
    rcases hb8 with h9 | h9
    · exact .inl (h9.trans hg)
    · exact .inr ⟨_, h9, by omega⟩
  have H := hid (⟨_, hnet, hres, hkeep⟩ : ∃ g', RnAt (w8.setCell ⟨bn, 0, none⟩ (.slice A8 (ms.length + 1) c8)) (SNew w S g') bn g' (ms ++ [m]) ∧ (g' = g ∨ ∃ k, g' = some k ∧ w.heap.size ≤ k) ∧ Keep (NF bn g) w (w8.setCell ⟨bn, 0, none⟩ (.slice A8 (ms.length + 1) c8)))
  clear hnet hres hkeep hown8 hown' hsrc hb hown hbk hbox hgn
  (try simp only [Act.put, List.setIfInBounds_toArray, List.set_cons_zero, List.set_cons_succ])
  go_wp2_with fail
  refine NoPanic.normal ?_
  go_wp2
  go_ret
  exact ⟨rfl, H.out⟩
end Go.Proofs.Ytjpbfdkpkeaofaa
