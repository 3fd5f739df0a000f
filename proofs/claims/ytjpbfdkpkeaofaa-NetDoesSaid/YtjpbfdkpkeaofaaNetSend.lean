/- Package net: Send. -/
import Derived.Test.YtjpbfdkpkeaofaaNetB
set_option linter.unusedSimpArgs false
set_option linter.unusedVariables false
namespace Go.Proofs.Ytjpbfdkpkeaofaa
open Go.RowKit
set_option linter.unusedVariables false

/-- What is new, the data that were there, and those of a source. -/
abbrev SNew (w : World) (S : BS) (g : Option Nat) : BS := fun k => (S k ∧ k < w.heap.size) ∨ (w.heap.size ≤ k ∧ g ≠ some k)

/-- A slice of elements, its form in sight. -/
def SlShape {α : Type} (E : El α) (w : World) (S : BS) (v : Value) (n : Nat) (xs : List α) : Prop := ∃ A c, v = .slice A n c ∧ Sl E w S v xs
theorem SlShape.ext {α : Type} {E : El α} (hE : E.Ok) {w w' : World} {S : BS} {v : Value} {n : Nat} {xs : List α} (h : SlShape E w S v n xs) (he : Ext w w') : SlShape E w' S v n xs := by
  obtain ⟨A, c, e, h⟩ := h; exact ⟨A, c, e, h.ext hE he⟩
set_option maxHeartbeats 800000 in
/-- 'Send', there being room, the message not too long. -/
theorem send_yes (w : World) (S Sm : BS) (bn : Nat) (g : Option Nat) (ms : List Mail) (m : Mail) (bv : Value) (h : NetAt w S bn g ms) (hm : BytesS w Sm bv m.b) (h1 : ms.length < 2000) (h2 : m.b.length ≤ 60000) :
    Calls Try.prog 9 #[.pointer (some ⟨bn, 0, none⟩), .agg #[.int .i64 m.sess, .bool m.up, bv]] w fun e w' =>
      e = .returned (.bool true) ∧ ∃ g', NetAt w' (SNew w S g') bn g' (ms ++ [m]) ∧ (g' = g ∨ ∃ k, g' = some k ∧ w.heap.size ≤ k) ∧ Keep (NF bn g) w w' := by
  obtain ⟨A, c, rfl, hlc, hcm⟩ := hm.shape
  unfold maxLen at hcm
  have hbn0 := h.lt.1
  have hE1 : Ext w (w.alloc (.cells #[.int .i64 m.sess, .bool m.up, .slice A m.b.length c] TMAIL)) := (Keep.refl _ _).alloc _
  have hbox : Blk (w.alloc (.cells #[.int .i64 m.sess, .bool m.up, .slice A m.b.length c] TMAIL)) w.heap.size TMAIL #[.int .i64 m.sess, .bool m.up, .slice A m.b.length c] := Blk.new _ _ _
  have hn1 := h.ext hE1
  have hm1 := hm.ext EU8.ok hE1
  have hz1 : (w.alloc (.cells #[.int .i64 m.sess, .bool m.up, .slice A m.b.length c] TMAIL)).heap.size = w.heap.size + 1 := by simp
  have hlen : (m.b.length : Int) ≤ 60000 := by omega
  go_enter Try.func9, Try.ntmps9
  go_wp2_with fail
  generalize w.alloc (.cells #[.int .i64 m.sess, .bool m.up, .slice A m.b.length c] TMAIL) = w1 at *
  refine (full_ok _ _ _ _ _ false hn1 (by simpa using h1)).mono ?_
  rintro e w2 ⟨rfl, rfl⟩
  have c0 := hbox.cell 0
  have c1 := hbox.cell 1
  have c2 := hbox.cell 2
  simp at c0 c1 c2
  go_wp2_with fail
  obtain ⟨va, hb, hg, hown, hSb, hSg⟩ := hn1
  obtain ⟨Aa, ca, rfl, hla, hca⟩ := hown.shape
  have d0 := hb.cell 0
  simp at d0
  refine wp_region_parts [0, 1, 2, 3] [4, 5, 6, 7] [8, 9, 10, 11] (specOf [(6, fun v w' => ∃ bv', v = .agg #[.int .i64 m.sess, .bool m.up, bv'] ∧ BytesS w' (fun k => w1.heap.size ≤ k) bv' m.b), (7, fun v w' => SlShape EMail w' (fun k => w1.heap.size ≤ k) v 1 [m])])
    (fun w' => Ext w1 w') ?_ (stableC_ext _) (by kernel_rfl) (by kernel_rfl) (Keep.drew (Keep.refl _ _)) ?_
  · exact stable_cons (fun v w w' ⟨b, h1, h2⟩ he => ⟨b, h1, h2.ext EU8.ok he⟩) (stable_cons (fun v w w' h he => h.ext EMail.ok he) stable_nil)
  iterate 4
    (try simp only [Act.put, List.setIfInBounds_toArray, List.set_cons_zero, List.set_cons_succ])
    refine pure_run rfl rfl ?_
    apply Exists.intro
    refine ⟨fun w' => ?_, ?_⟩
    · go_simp
      rfl
  refine pure_nil ?_
  iterate 2
    (try simp only [Act.put, List.setIfInBounds_toArray, List.set_cons_zero, List.set_cons_succ])
    refine growP_run rfl rfl rfl ?_
    apply Exists.intro
    refine ⟨fun w' hC hK => ?_, ?_⟩
    · have e0 := (hC.cell (lt_of_cell d0) id).trans d0
      have e1 := (hC.cell (lt_of_cell c0) id).trans c0
      have e2 := (hC.cell (lt_of_cell c1) id).trans c1
      have e3 := (hC.cell (lt_of_cell c2) id).trans c2
      go_simp
      rfl
  simp only [Act.put, List.setIfInBounds_toArray, List.set_cons_zero, List.set_cons_succ]
  refine growP_eff rfl rfl rfl (fun w' hC hK => ?_) (fun v6 hv6 => ?_)
  · unfold growAt
    go_simp
    refine grow_call ((clone_mail _ _ _ _ _ _ (hm1.ext EU8.ok hC) (by omega)).mono fun e w'' ⟨b', h1, h2, h3⟩ => ⟨_, h1, h3, b', rfl, h2.more EU8.ok fun k _ h => by have := hC.size; omega⟩)
  obtain ⟨_, _, b6, rfl, _⟩ := hv6.head
  simp only [Act.put, List.setIfInBounds_toArray, List.set_cons_zero, List.set_cons_succ]
  refine growP_eff rfl rfl rfl (fun w' hC hK => ?_) (fun v7 hv7 => ?_)
  · unfold growAt
    go_simp
    obtain ⟨b', e, hb'⟩ := hK.get (i := 6) List.mem_cons_self (by kernel_rfl)
    have hb6 : BytesS w' (fun k => w1.heap.size ≤ k) b6 m.b := by
      simp only [Value.agg.injEq] at e
      simp at e
      rw [e]; exact hb'
    refine ⟨(Keep.refl _ _).alloc _, _, _, rfl, [_, _, _], ?_, Cells.single ⟨b6, rfl, ?_⟩⟩
    · exact (RowS.new (sz := 3) (cs := [_, _, _]) (n := 1) rfl (by simp [maxLen])).more fun k _ e => by have := hC.size; show w.heap.size + 1 ≤ k; omega
    · have := hb6.ext EU8.ok ((Keep.refl _ _).alloc (.cells #[.int .i64 m.sess, .bool m.up, b6] TMAIL))
      rwa [hz1] at this
  obtain ⟨_, _, A7, c7, rfl, _⟩ := hv7.head
  refine growP_nil fun w' hC hK => ?_
  obtain ⟨_, _, _, f7⟩ : SlShape EMail w' (fun k => w1.heap.size ≤ k) (.slice A7 1 c7) 1 [m] := hK (7, _) List.mem_cons_self
  change wpList _ _ _ (_ :: _ :: _ :: _ :: []) _ _
  have hown' := (hown.ext EMail.ok hC).more (S' := fun k => S k ∧ k < w'.heap.size) EMail.ok (fun k h1 h2 => ⟨h2, h1⟩)
  have hsrc := f7.more (S' := fun k => w1.heap.size ≤ k ∧ k < w'.heap.size) EMail.ok (fun k h1 h2 => ⟨h2, h1⟩)
  have hzC := hC.size
  have hgl : ∀ k, (Value.slice Aa ms.length ca).ownBlock = some k → bn < k ∧ k < w1.heap.size := fun k e => by have := hown.lt e; exact ⟨this.1, this.2⟩
  have hbn := hb.lt
  clear hv6 hv7 hK f7
  (try simp only [Act.put, List.setIfInBounds_toArray, List.set_cons_zero, List.set_cons_succ])
  refine wpList_own_append (P := Try.prog) (E := EMail) (v := .slice Aa ms.length ca) (y := .slice A7 1 c7) w' rfl (.tmp 17) (.tmp 20) EMail.ok ty_mail ?_ ?_ ?_ hown' hsrc ?_ ?_ ?_ (by omega) ?_
  · rfl
  · rfl
  · rfl
  · exact fun k e => ⟨fun h => hSg k (hg.symm.trans e) h.1, fun h => by have := hgl k e; omega⟩
  · have : ([m] : List Mail).length = 1 := rfl
    rw [this]; omega
  · have : ([m] : List Mail).length = 1 := rfl
    rw [this]; simp only [maxLen]; omega
  intro v8 w8 hown8 hk8 hb8
  obtain ⟨A8, c8, e8, h8⟩ := hown8.shape
  have hl8 : (ms ++ [m]).length = ms.length + 1 := by simp
  rw [hl8] at e8
  subst e8
  have hbk : Blk w8 bn TNET #[.slice Aa ms.length ca] := (hb.keep hC id).keep hk8 (fun e => by have := hgl bn e; omega)
  have e0 := hbk.cell 0
  have e1 := hbk.frozen 0
  simp at e0
  have hz8 := hk8.size
  have hgn : ∀ k, (Value.slice A8 (ms.length + 1) c8).ownBlock = some k → k = bn → False := fun k e1 e2 => by
    have := (hown8.lt e1).1; omega
  have hnet : NetAt (w8.setCell ⟨bn, 0, none⟩ (.slice A8 (ms.length + 1) c8)) (SNew w S (Value.slice A8 (ms.length + 1) c8).ownBlock) bn (Value.slice A8 (ms.length + 1) c8).ownBlock (ms ++ [m]) := by
    have hkk : Keep (fun k => k = bn) w8 (w8.setCell ⟨bn, 0, none⟩ (.slice A8 (ms.length + 1) c8)) := (Keep.refl _ _).set1 0 _
    refine ⟨_, hbk.set_ 0 _, rfl, ((hown8.keep EMail.ok hkk ?_ ?_).more EMail.ok ?_), ?_, ?_⟩
    · intro k hh e9
      subst e9
      rcases hh with hh | hh
      · exact hSb hh.1
      · omega
    · exact fun k e e2 => hgn k e e2
    · rintro k _ (h | h)
      · rcases Nat.lt_or_ge k w.heap.size with hk | hk
        · exact .inl ⟨h.1, hk⟩
        · refine .inr ⟨hk, fun e => ?_⟩
          rcases hb8 with h9 | h9
          · rw [h9] at e; exact hSg k (hg.symm.trans e) h.1
          · rw [h9] at e; injection e with e; omega
      · refine .inr ⟨by omega, fun e => ?_⟩
        rcases hb8 with h9 | h9
        · rw [h9] at e; have := hgl k e; omega
        · rw [h9] at e; injection e with e; omega
    · rintro (h | h)
      · exact hSb h.1
      · have := h.1; omega
    · rintro k e (h | h)
      · rcases hb8 with h9 | h9
        · rw [h9] at e; exact hSg k (hg.symm.trans e) h.1
        · rw [h9] at e; injection e with e; omega
      · exact h.2 e
  have hkeep : Keep (NF bn g) w (w8.setCell ⟨bn, 0, none⟩ (.slice A8 (ms.length + 1) c8)) := by
    have k1 : Keep (NF bn g) w w8 := (Keep.mono (hE1.ext hC) (fun _ _ x => x.elim)).trans hk8 (fun k _ e => .inr (hg.symm.trans e))
    exact k1.setAt (fun _ => .inl rfl) 0 _
  have hres : (Value.slice A8 (ms.length + 1) c8).ownBlock = g ∨ ∃ k, (Value.slice A8 (ms.length + 1) c8).ownBlock = some k ∧ w.heap.size ≤ k := by
    rcases hb8 with h9 | h9
    · exact .inl (h9.trans hg)
    · exact .inr ⟨_, h9, by omega⟩
  have H := hid (⟨_, hnet, hres, hkeep⟩ : ∃ g', NetAt (w8.setCell ⟨bn, 0, none⟩ (.slice A8 (ms.length + 1) c8)) (SNew w S g') bn g' (ms ++ [m]) ∧ (g' = g ∨ ∃ k, g' = some k ∧ w.heap.size ≤ k) ∧ Keep (NF bn g) w (w8.setCell ⟨bn, 0, none⟩ (.slice A8 (ms.length + 1) c8)))
  clear hnet hres hkeep hown8 hown' hsrc hb hown hbk hbox hgn
  (try simp only [Act.put, List.setIfInBounds_toArray, List.set_cons_zero, List.set_cons_succ])
  go_wp2_with fail
  refine NoPanic.normal ?_
  go_wp2
  go_ret
  exact ⟨rfl, H.out⟩
end Go.Proofs.Ytjpbfdkpkeaofaa
