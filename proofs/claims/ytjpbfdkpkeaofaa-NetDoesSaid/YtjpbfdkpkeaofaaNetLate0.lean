/- Package net: Drop, Late. -/
import Derived.Test.YtjpbfdkpkeaofaaNetTake
import Derived.Test.YtjpbfdkpkeaofaaNetSend
set_option linter.unusedSimpArgs false
set_option linter.unusedVariables false
namespace Go.Proofs.Ytjpbfdkpkeaofaa
open Go.RowKit
set_option linter.unusedVariables false

set_option maxHeartbeats 400000 in
theorem drop_no (w : World) (S : BS) (bn : Nat) (g : Option Nat) (ms : List Mail) (i : Int) (h : NetAt w S bn g ms) (hi : i < 0 ∨ (ms.length : Int) ≤ i) :
    Calls Try.prog 18 #[.pointer (some ⟨bn, 0, none⟩), .int .i64 i] w fun e w' => e = .returned (.bool false) ∧ Ext w w' := by
  have HI := hid hi
  clear hi
  go_enter Try.func18, Try.ntmps18
  go_wp2_with fail
  refine (take_no _ _ _ _ _ _ h HI.out).mono ?_
  rintro e w1 ⟨rfl, hE⟩
  have H := hid (hE.alloc (.cells #[.int .i64 0, .bool false, .slice none 0 0] TMAIL))
  clear hE h
  go_wp2_with fail
  go_ret
  exact ⟨rfl, H.out⟩

set_option maxHeartbeats 400000 in
theorem drop_yes (w : World) (S : BS) (bn : Nat) (g : Option Nat) (ms : List Mail) (i : Nat) (h : NetAt w S bn g ms) (hi : i < ms.length) :
    Calls Try.prog 18 #[.pointer (some ⟨bn, 0, none⟩), .int .i64 (i : Int)] w fun e w' => e = .returned (.bool true) ∧ NetAt w' S bn g (ms.eraseIdx i) ∧ Keep (NF bn g) w w' := by
  have HI := hid hi
  clear hi
  go_enter Try.func18, Try.ntmps18
  go_wp2_with fail
  refine (take_yes _ _ _ _ _ _ h HI.out).mono ?_
  rintro e w1 ⟨bv, rfl, hbv, hn, hK⟩
  generalize ms[i] = m at *
  have H := hid (hn.ext ((Keep.refl _ _).alloc (.cells #[.int .i64 m.sess, .bool m.up, bv] TMAIL)))
  have H' := hid (hK.alloc (.cells #[.int .i64 m.sess, .bool m.up, bv] TMAIL))
  obtain ⟨A, c, rfl, _⟩ := hbv.shape
  clear hn h hK hbv
  go_wp2_with fail
  go_ret
  exact ⟨rfl, H.out, H'.out⟩

set_option maxHeartbeats 400000 in
theorem late_no (w : World) (S : BS) (bn : Nat) (g : Option Nat) (ms : List Mail) (i : Int) (h : NetAt w S bn g ms) (hi : i < 0 ∨ (ms.length : Int) ≤ i) :
    Calls Try.prog 15 #[.pointer (some ⟨bn, 0, none⟩), .int .i64 i] w fun e w' => e = .returned (.bool false) ∧ Ext w w' := by
  have HI := hid hi
  clear hi
  go_enter Try.func15, Try.ntmps15
  go_wp2_with fail
  refine (take_no _ _ _ _ _ _ h HI.out).mono ?_
  rintro e w1 ⟨rfl, hE⟩
  have H := hid (hE.alloc (.cells #[.int .i64 0, .bool false, .slice none 0 0] TMAIL))
  clear hE h
  go_wp2_with fail
  go_ret
  exact ⟨rfl, H.out⟩

set_option maxHeartbeats 1000000 in
theorem late_yes (w : World) (S : BS) (bn : Nat) (g : Option Nat) (ms : List Mail) (i : Nat) (h : NetAt w S bn g ms) (hi : i < ms.length) (h1 : ms.length ≤ 2000) :
    Calls Try.prog 15 #[.pointer (some ⟨bn, 0, none⟩), .int .i64 (i : Int)] w fun e w' =>
      e = .returned (.bool true) ∧ ∃ g', NetAt w' (SNew w S g') bn g' (ms.eraseIdx i ++ [ms[i]]) ∧ (g' = g ∨ ∃ k, g' = some k ∧ w.heap.size ≤ k) ∧ Keep (NF bn g) w w' := by
  have hlt0 := h.lt
  have hns := h.notS
  have hle : (ms.eraseIdx i).length < 2000 := by rw [List.length_eraseIdx]; simp [hi]; omega
  have HT := hid (take_yes0 _ _ _ _ _ _ h.cutS hi (fun k h => h.2))
  generalize ms[i] = m at *
  generalize ms.eraseIdx i = ms' at *
  clear h hi h1
  go_enter Try.func15, Try.ntmps15
  go_wp2_with fail
  refine HT.out.mono ?_
  rintro e w1 ⟨bv, rfl, hbv, hn, hK1⟩
  clear HT
  obtain ⟨A, c, rfl, hlc, hcm⟩ := hbv.shape
  unfold maxLen at hcm
  have hE2 : Ext w1 (w1.alloc (.cells #[.int .i64 m.sess, .bool m.up, .slice A m.b.length c] TMAIL)) := (Keep.refl _ _).alloc _
  have hbox : Blk (w1.alloc (.cells #[.int .i64 m.sess, .bool m.up, .slice A m.b.length c] TMAIL)) w1.heap.size TMAIL #[.int .i64 m.sess, .bool m.up, .slice A m.b.length c] := Blk.new _ _ _
  have hn2 := hn.ext hE2
  have hbv2 := hbv.ext EU8.ok hE2
  have hz1 : (w1.alloc (.cells #[.int .i64 m.sess, .bool m.up, .slice A m.b.length c] TMAIL)).heap.size = w1.heap.size + 1 := by simp
  have HZ := hid hz1
  have HE2 := hid hE2
  have hszw := hK1.size
  clear hE2 hz1 hn hbv
  go_wp2_with fail
  generalize w1.alloc (.cells #[.int .i64 m.sess, .bool m.up, .slice A m.b.length c] TMAIL) = w2 at *
  have hz1 := HZ.out
  have hE2 := HE2.out
  have c0 := hbox.cell 0
  have c1 := hbox.cell 1
  have c2 := hbox.cell 2
  simp at c0 c1 c2
  obtain ⟨va, hb, hg, hown, hSb, hSg⟩ := hn2
  obtain ⟨Aa, ca, rfl, hla, hca⟩ := hown.shape
  have d0 := hb.cell 0
  simp at d0
  refine wp_region_parts [0, 1, 2, 3] [4, 5, 6] [7, 8, 9, 10] (specOf [(6, fun v w' => SlShape EMail w' (fun k => (S k ∧ k < w.heap.size) ∨ w2.heap.size ≤ k) v 1 [m])])
    (fun w' => Ext w2 w') ?_ (stableC_ext _) (by kernel_rfl) (by kernel_rfl) (Keep.drew (Keep.refl _ _)) ?_
  · exact stable_cons (fun v w w' h he => h.ext EMail.ok he) stable_nil
  iterate 4
    (try simp only [Act.put, List.setIfInBounds_toArray, List.set_cons_zero, List.set_cons_succ])
    refine pure_run rfl rfl ?_
    apply Exists.intro
    refine ⟨fun w' => ?_, ?_⟩
    · go_simp
      rfl
  refine pure_nil ?_
  iterate 2
    (try simp only [Act.put, List.setIfInBounds_toArray, List.set_cons_zero, List.set_cons_succ])
    refine growP_run rfl rfl rfl ?_
    apply Exists.intro
    refine ⟨fun w' hC hK => ?_, ?_⟩
    · have e0 := (hC.cell (lt_of_cell d0) id).trans d0
      have e1 := (hC.cell (lt_of_cell c0) id).trans c0
      have e2 := (hC.cell (lt_of_cell c1) id).trans c1
      have e3 := (hC.cell (lt_of_cell c2) id).trans c2
      go_simp
      rfl
  simp only [Act.put, List.setIfInBounds_toArray, List.set_cons_zero, List.set_cons_succ]
  refine growP_eff rfl rfl rfl (fun w' hC hK => ?_) (fun v7 hv7 => ?_)
  · unfold growAt
    go_simp
    refine ⟨(Keep.refl _ _).alloc _, _, _, rfl, [_, _, _], ?_, Cells.single ⟨.slice A m.b.length c, rfl, ?_⟩⟩
    · exact (RowS.new (sz := 3) (cs := [_, _, _]) (n := 1) rfl (by simp [maxLen])).more fun k _ e => by have := hC.size; exact .inr (by omega)
    · exact ((hbv2.ext EU8.ok hC).ext EU8.ok ((Keep.refl _ _).alloc (.cells #[.int .i64 m.sess, .bool m.up, .slice A m.b.length c] TMAIL))).more EU8.ok fun k _ h => .inl h
  obtain ⟨_, _, A7, c7, rfl, _⟩ := hv7.head
  refine growP_nil fun w' hC hK => ?_
  obtain ⟨_, _, _, f7⟩ : SlShape EMail w' _ (.slice A7 1 c7) 1 [m] := hK (6, _) List.mem_cons_self
  change wpList _ _ _ (_ :: _ :: _ :: _ :: []) _ _
  have hown' := (hown.ext EMail.ok hC)
  have hzC := hC.size
  have hgl : ∀ k, (Value.slice Aa ms'.length ca).ownBlock = some k → bn < k ∧ k < w.heap.size := fun k e => hlt0.2 k (hg.symm.trans e)
  have hbn := hlt0.1
  have hsrc := f7.more (S' := fun k => (S k ∧ k < w.heap.size) ∨ (w2.heap.size ≤ k ∧ k < w'.heap.size)) EMail.ok (fun k h1 h2 => h2.elim .inl fun h2 => .inr ⟨h2, h1⟩)
  clear hv7 hK f7
  (try simp only [Act.put, List.setIfInBounds_toArray, List.set_cons_zero, List.set_cons_succ])
  refine wpList_own_append (P := Try.prog) (E := EMail) (v := .slice Aa ms'.length ca) (y := .slice A7 1 c7) w' rfl (.tmp 18) (.tmp 20) EMail.ok ty_mail ?_ ?_ ?_ hown' hsrc ?_ ?_ ?_ (by omega) ?_
  · rfl
  · rfl
  · rfl
  · exact fun k e => ⟨fun h => hSg k (hg.symm.trans e) h, fun h => by have := hgl k e; rcases h with h | h; exact hSg k (hg.symm.trans e) h; omega⟩
  · have : ([m] : List Mail).length = 1 := rfl
    rw [this]; omega
  · have : ([m] : List Mail).length = 1 := rfl
    rw [this]; simp only [maxLen]; omega
  intro v8 w8 hown8 hk8 hb8
  obtain ⟨A8, c8, e8, h8⟩ := hown8.shape
  have hl8 : (ms' ++ [m]).length = ms'.length + 1 := by simp
  rw [hl8] at e8
  subst e8
  have hbk : Blk w8 bn TNET #[.slice Aa ms'.length ca] := (hb.keep hC id).keep hk8 (fun e => by have := hgl bn e; omega)
  have e0 := hbk.cell 0
  have e1 := hbk.frozen 0
  simp at e0
  have hz8 := hk8.size
  have hgn : ∀ k, (Value.slice A8 (ms'.length + 1) c8).ownBlock = some k → k = bn → False := fun k e1 e2 => by
    have := (hown8.lt e1).1; omega
  have hnet : NetAt (w8.setCell ⟨bn, 0, none⟩ (.slice A8 (ms'.length + 1) c8)) (SNew w S (Value.slice A8 (ms'.length + 1) c8).ownBlock) bn (Value.slice A8 (ms'.length + 1) c8).ownBlock (ms' ++ [m]) := by
    have hkk : Keep (fun k => k = bn) w8 (w8.setCell ⟨bn, 0, none⟩ (.slice A8 (ms'.length + 1) c8)) := (Keep.refl _ _).set1 0 _
    refine ⟨_, hbk.set_ 0 _, rfl, ((hown8.keep EMail.ok hkk ?_ ?_).more EMail.ok ?_), ?_, ?_⟩
    · intro k hh e9
      subst e9
      rcases hh with hh | hh | hh
      · exact hSb hh
      · exact hSb hh
      · omega
    · exact fun k e e2 => hgn k e e2
    · rintro k _ h
      rcases (show (S k ∧ k < w.heap.size) ∨ (w2.heap.size ≤ k ∧ k < w'.heap.size) from h.elim .inl id) with h | h
      · exact .inl h
      · refine .inr ⟨by omega, fun e => ?_⟩
        rcases hb8 with h9 | h9
        · rw [h9] at e; have := hgl k e; omega
        · rw [h9] at e; injection e with e; omega
    · rintro (h | h)
      · exact hSb h
      · have := h.1; omega
    · rintro k e (h | h)
      · rcases hb8 with h9 | h9
        · rw [h9] at e; exact hSg k (hg.symm.trans e) h
        · rw [h9] at e; injection e with e; omega
      · exact h.2 e
  have hkeep : Keep (NF bn g) w (w8.setCell ⟨bn, 0, none⟩ (.slice A8 (ms'.length + 1) c8)) := by
    have k1 : Keep (NF bn g) w w8 := (hK1.ext (hE2.ext hC)).trans hk8 (fun k _ e => .inr (hg.symm.trans e))
    exact k1.setAt (fun _ => .inl rfl) 0 _
  have hres : (Value.slice A8 (ms'.length + 1) c8).ownBlock = g ∨ ∃ k, (Value.slice A8 (ms'.length + 1) c8).ownBlock = some k ∧ w.heap.size ≤ k := by
    rcases hb8 with h9 | h9
    · exact .inl (h9.trans hg)
    · exact .inr ⟨_, h9, by omega⟩
  have H := hid (⟨_, hnet, hres, hkeep⟩ : ∃ g', NetAt (w8.setCell ⟨bn, 0, none⟩ (.slice A8 (ms'.length + 1) c8)) (SNew w S g') bn g' (ms' ++ [m]) ∧ (g' = g ∨ ∃ k, g' = some k ∧ w.heap.size ≤ k) ∧ Keep (NF bn g) w (w8.setCell ⟨bn, 0, none⟩ (.slice A8 (ms'.length + 1) c8)))
  clear hnet hres hkeep hown8 hown' hsrc hb hown hbk hbox hgn
  (try simp only [Act.put, List.setIfInBounds_toArray, List.set_cons_zero, List.set_cons_succ])
  go_wp2_with fail
  refine NoPanic.normal ?_
  go_wp2
  go_ret
  exact ⟨rfl, H.out⟩
end Go.Proofs.Ytjpbfdkpkeaofaa
