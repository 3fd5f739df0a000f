/- The law's does: Drop, Twice, Late, Cut. -/
import Derived.Test.YtjpbfdkpkeaofaaNetDoB
set_option linter.unusedSimpArgs false
set_option linter.unusedVariables false
namespace Go.Proofs.Ytjpbfdkpkeaofaa
open Go.RowKit
set_option linter.unusedVariables false

theorem eff_two {i j : Nat} {P Q : Nat → Prop} {l k : Nat} (h : M.effOf [(i, P), (j, Q)] l k) : (l = i ∧ P k) ∨ (l = j ∧ Q k) := by
  obtain ⟨x, hx, e, hk⟩ := h
  rcases List.mem_cons.1 hx with rfl | hx
  · exact .inl ⟨e.symm, hk⟩
  · rcases List.mem_cons.1 hx with rfl | hx
    · exact .inr ⟨e.symm, hk⟩
    · cases hx
def DoneN (w0 : World) (bn rn : Nat) (new : List Mail) (e : Ending) (w' : World) : Prop := e = .returned (.bool true) ∧ ∃ a1 a2, Pair w0 w' bn rn a1 a2 new new
set_option maxRecDepth 20000 in
set_option maxHeartbeats 3200000 in
theorem does_drop (w0 w : World) (bn rn : Nat) (g1 g2 : Option Nat) (ms : List Mail) (k : UInt8) (sess : Int) (up : Bool) (A : Option Addr) (n c : Nat) (z : Int) (hk : k.toNat % 9 = 4) (i : Nat) (hi : i < ms.length) (hm20 : ms.length < 2000) (hz : z = (i : Int)) (new : List Mail) (hnew : (ms.eraseIdx i) = new) (h : Pair w0 w bn rn g1 g2 ms ms) :
    Calls Try.prog 14 #[.pointer (some ⟨bn, 0, none⟩), .pointer (some ⟨rn, 0, none⟩), .agg #[U8 k, .int .i64 sess, .bool up, .slice A n c, .int .i64 z]] w (DoneN w0 bn rn new) := by
  obtain ⟨W, hW⟩ : ∃ W, w.alloc (.cells #[U8 k, .int .i64 sess, .bool up, .slice A n c, .int .i64 z] 30) = W := ⟨_, rfl⟩
  have hE : Ext w W := by rw [← hW]; exact (Keep.refl _ _).alloc _
  have hb : Blk W w.heap.size 30 #[U8 k, .int .i64 sess, .bool up, .slice A n c, .int .i64 z] := by rw [← hW]; exact Blk.new _ _ _
  have q0 := hb.cell 0
  have q3 := hb.cell 4
  simp only [List.getElem?_toArray, List.getElem?_cons_succ, List.getElem?_cons_zero] at q0 q3
  have HT := hid (h.more hE)
  have HL := hid HT.out.lw
  have HQ3 := hid q3
  have HLO := hid (show ¬ (NF bn g1 w.heap.size ∨ NF rn g2 w.heap.size) from fun hb => by
    have h1 := h.net.lt
    have h2 := h.ref.lt
    rcases hb with (h | h) | h | h
    · omega
    · have := (h1.2 _ h).2; omega
    · omega
    · have := (h2.2 _ h).2; omega)
  have hkz : ((k.toNat : Int)).tmod 9 = 4 := by rw [Int.tmod_eq_emod_of_nonneg (by omega)]; omega
  have hkz2 : (k.toNat : Int) % 9 = 4 := by omega
  clear h hE hb
  subst hz
  have HI := hid hi
  have HM := hid hm20
  clear hi hm20
  have HNEW := hid hnew
  clear hnew
  go_enter Try.func14, Try.ntmps14
  go_wp2_with fail
  refine M.wp_region_once [0] [1, 2, 3, 4, 5, 6, 7, 8] [9] (M.specOf [(3, fun v w' => v = .bool true ∧ HalfN W bn rn g1 g2 new w'), (7, fun v w' => v = .bool true ∧ PBoth W bn rn g1 g2 new w' ∧ W.heap.size ≤ w'.heap.size)])
    (fun w' => Keep (fun k => NF bn g1 k ∨ NF rn g2 k) W w') (fun i w1 w' => Keep (M.effOf [(3, NF bn g1), (7, NF rn g2)] i) w1 w' ∧ (i = 3 → W.heap.size ≤ w1.heap.size → PBoth W bn rn g1 g2 new w1 → PBoth W bn rn g1 g2 new w')) (fun i w' => (i = 3 → NetAt w' (fun k => Fr bn rn g1 g2 k ∧ k < W.heap.size) bn g1 ms) ∧ (i = 7 → RnAt w' (fun k => Fr bn rn g1 g2 k ∧ k < W.heap.size) rn g2 ms))
    ?_ (fun i w1 w' hk he => M.stableC_keep (Fs := M.effOf [(3, NF bn g1), (7, NF rn g2)]) (fun i k h => by obtain ⟨x, hx, _, h⟩ := h; rcases List.mem_cons.1 hx with rfl | hx; exact .inl h; rcases List.mem_cons.1 hx with rfl | hx; exact .inr h; cases hx) _ i w1 w' hk he.1) ?_ (by kernel_rfl) (by kernel_rfl) (Keep.drew (Keep.refl _ _)) ?_ ?_
  · refine M.stable_cons (fun j hj v w w' h he => ⟨h.1, h.2.keepR HL.out he.1 fun k hf => ?_⟩) (M.stable_cons (fun j hj v w w' h he => ⟨h.1, ?_, Nat.le_trans h.2.2 he.1.size⟩) M.stable_nil)
    · rcases eff_two hf with ⟨e, _⟩ | ⟨_, hk⟩
      · exact absurd e hj
      · exact hk
    · by_cases e5 : j = 3
      · exact he.2 e5 h.2.2 h.2.1
      · refine h.2.1.keep he.1 fun k hf => ?_
        rcases eff_two hf with ⟨e, _⟩ | ⟨e, _⟩
        · exact e5 e
        · exact hj e
  · intro i j hj w w' hu he
    have hap := HL.out.ap
    refine ⟨fun e => (hu.1 e).keep he.1 (fun k hb hf => ?_) (fun k hb hf => ?_), fun e => (hu.2 e).keep he.1 (fun k hb hf => ?_) (fun k hb hf => ?_)⟩
    · rcases eff_two hf with ⟨e2, _⟩ | ⟨_, hk⟩
      · exact hj (e2.trans e.symm)
      · exact hk.elim hb.1.2.1 hb.1.2.2.2
    · rcases eff_two hf with ⟨e2, _⟩ | ⟨_, hk⟩
      · exact hj (e2.trans e.symm)
      · rcases hb with rfl | hb
        · rcases hk with hk | hk
          · exact hap.1 hk
          · exact hap.2.2.1 hk
        · rcases hk with rfl | hk
          · exact hap.2.1 hb
          · exact hap.2.2.2 k hb hk
    · rcases eff_two hf with ⟨_, hk⟩ | ⟨e2, _⟩
      · exact hk.elim hb.1.1 hb.1.2.2.1
      · exact hj (e2.trans e.symm)
    · rcases eff_two hf with ⟨_, hk⟩ | ⟨e2, _⟩
      · rcases hb with rfl | hb
        · rcases hk with hk | hk
          · exact hap.1 hk.symm
          · exact hap.2.1 hk
        · rcases hk with rfl | hk
          · exact hap.2.2.1 hb
          · exact hap.2.2.2 k hk hb
      · exact hj (e2.trans e.symm)
  · intro k _
    exact ⟨fun _ => HT.out.net.cutS.ext (Keep.refl _ W).drew, fun _ => HT.out.ref.cutS.ext (Keep.refl _ W).drew⟩
  iterate 1
    (try simp only [Act.put, List.setIfInBounds_toArray, List.set_cons_zero, List.set_cons_succ])
    refine M.pure_run rfl rfl ?_
    apply Exists.intro
    refine ⟨fun w' => ?_, ?_⟩
    · go_simp
      rfl
  refine M.pure_nil ?_
  iterate 2
    (try simp only [Act.put, List.setIfInBounds_toArray, List.set_cons_zero, List.set_cons_succ])
    refine M.u_run rfl rfl rfl ?_
    apply Exists.intro
    refine ⟨fun w' hC hU hK => ?_, ?_⟩
    · have q3' := (hC.cell (lt_of_cell HQ3.out) HLO.out).trans HQ3.out
      go_simp
      rfl
  (try simp only [Act.put, List.setIfInBounds_toArray, List.set_cons_zero, List.set_cons_succ])
  refine M.u_eff rfl rfl rfl (fun w' hC hU hK => ?_) (fun v3 hv3 => ?_)
  · unfold M.growAt
    go_simp
    refine M.grow_call ((drop_yes _ _ bn g1 ms i (hU.1 rfl) HI.out).mono ?_)
    have hsz := hC.size
    rintro e w'' ⟨rfl, h1, h2⟩
    have hnp : NPost W bn rn g1 g2 new w' w'' := NPost.of_same HL.out (by rw [← HNEW.out]; exact h1) hsz h2
    have hh : HalfN W bn rn g1 g2 new w'' := by
      obtain ⟨a1, n1, n2, _⟩ := hnp
      refine ⟨a1, _, n1, fun k e => ?_, fun k h => ?_⟩
      · rcases n2 with h | ⟨q, h, h2⟩
        · exact .inl (h ▸ e)
        · rw [h] at e; injection e with e; exact .inr (by omega)
      · rcases h with h | h
        · exact .inl h.1
        · exact .inr (by omega)
    have hk2 : Keep (NF bn g1) w' w'' := by obtain ⟨_, _, _, h⟩ := hnp; exact h
    exact ⟨_, rfl, ⟨hk2.mono (fun k _ hk => ⟨_, List.mem_cons_self, rfl, hk⟩), fun hs hp => hp.one HL.out hs hnp⟩, by rfl, hh⟩
  obtain ⟨_, _, rfl, _⟩ := hv3
  iterate 3
    (try simp only [Act.put, List.setIfInBounds_toArray, List.set_cons_zero, List.set_cons_succ])
    refine M.u_run rfl rfl rfl ?_
    apply Exists.intro
    refine ⟨fun w' hC hU hK => ?_, ?_⟩
    · have q3' := (hC.cell (lt_of_cell HQ3.out) HLO.out).trans HQ3.out
      go_simp
      rfl
  (try simp only [Act.put, List.setIfInBounds_toArray, List.set_cons_zero, List.set_cons_succ])
  refine M.u_eff rfl rfl rfl (fun w' hC hU hK => ?_) (fun v7 hv7 => ?_)
  · have h5 := (hK.get (i := 3) List.mem_cons_self (by kernel_rfl)).2
    unfold M.growAt
    go_simp
    refine M.grow_call ((rdrop_yes _ _ rn g2 ms i (hU.2 rfl) HI.out (Nat.le_of_lt HM.out)).mono ?_)
    have hsz := hC.size
    rintro e w'' ⟨rfl, a2, h1, h3, h2⟩
    have hrp : RPost W bn rn g1 g2 new w' w'' := ⟨a2, by rw [← HNEW.out]; exact h1, h3, h2⟩
    have hk2 : Keep (NF rn g2) w' w'' := by obtain ⟨_, _, _, h⟩ := hrp; exact h
    exact ⟨_, rfl, hk2.mono (fun k _ hk => ⟨_, List.mem_cons_of_mem _ List.mem_cons_self, rfl, hk⟩), by rfl, h5.two HL.out hsz hrp, Nat.le_trans hsz h2.size⟩
  obtain ⟨_, _, rfl, _⟩ := hv7
  iterate 1
    (try simp only [Act.put, List.setIfInBounds_toArray, List.set_cons_zero, List.set_cons_succ])
    refine M.u_run rfl rfl rfl ?_
    apply Exists.intro
    refine ⟨fun w' hC hU hK => ?_, ?_⟩
    · go_simp
      rfl
  refine M.u_nil fun wz hC hK => ?_
  have hp := (hK (7, _) List.mem_cons_self).2.1
  have hC : Keep (fun k => NF bn g1 k ∨ NF rn g2 k) W wz := hC
  have hl := HT.out.low
  have HTT := hid (PBoth.pair hp HT.out (HT.out.ext.trans hC fun k hk hb => by
    rcases hb with (rfl | h) | rfl | h
    · omega
    · have := hl.2.2.1 k h; omega
    · omega
    · have := hl.2.2.2 k h; omega))
  clear hC hK hp hl q0 q3
  change wpList _ _ _ (_ :: []) _ _
  (try simp only [Act.put, List.setIfInBounds_toArray, List.set_cons_zero, List.set_cons_succ])
  go_wp2_with fail
  refine NoPanic.normal ?_
  go_wp2
  go_ret
  exact ⟨rfl, HTT.out⟩
set_option maxRecDepth 20000 in
set_option maxHeartbeats 3200000 in
theorem does_drop_no (w0 w : World) (bn rn : Nat) (g1 g2 : Option Nat) (ms : List Mail) (k : UInt8) (sess : Int) (up : Bool) (A : Option Addr) (n c : Nat) (z : Int) (hk : k.toNat % 9 = 4) (hi : z < 0 ∨ (ms.length : Int) ≤ z) (h : Pair w0 w bn rn g1 g2 ms ms) :
    Calls Try.prog 14 #[.pointer (some ⟨bn, 0, none⟩), .pointer (some ⟨rn, 0, none⟩), .agg #[U8 k, .int .i64 sess, .bool up, .slice A n c, .int .i64 z]] w (DoneN w0 bn rn ms) := by
  obtain ⟨W, hW⟩ : ∃ W, w.alloc (.cells #[U8 k, .int .i64 sess, .bool up, .slice A n c, .int .i64 z] 30) = W := ⟨_, rfl⟩
  have hE : Ext w W := by rw [← hW]; exact (Keep.refl _ _).alloc _
  have hb : Blk W w.heap.size 30 #[U8 k, .int .i64 sess, .bool up, .slice A n c, .int .i64 z] := by rw [← hW]; exact Blk.new _ _ _
  have q0 := hb.cell 0
  have q3 := hb.cell 4
  simp only [List.getElem?_toArray, List.getElem?_cons_succ, List.getElem?_cons_zero] at q0 q3
  have HT := hid (h.more hE)
  have HL := hid HT.out.lw
  have HQ3 := hid q3
  have HLO := hid (show ¬ (NF bn g1 w.heap.size ∨ NF rn g2 w.heap.size) from fun hb => by
    have h1 := h.net.lt
    have h2 := h.ref.lt
    rcases hb with (h | h) | h | h
    · omega
    · have := (h1.2 _ h).2; omega
    · omega
    · have := (h2.2 _ h).2; omega)
  have hkz : ((k.toNat : Int)).tmod 9 = 4 := by rw [Int.tmod_eq_emod_of_nonneg (by omega)]; omega
  have hkz2 : (k.toNat : Int) % 9 = 4 := by omega
  clear h hE hb
  have HI := hid hi
  clear hi
  go_enter Try.func14, Try.ntmps14
  go_wp2_with fail
  refine wp_region_parts [0] [1, 2, 3, 4, 5, 6, 7, 8] [9] (specOf [(3, fun v w' => v = .bool false), (7, fun v w' => v = .bool false)]) (fun w' => Ext W w') (stable_cons (fun v w w' h he => h) (stable_cons (fun v w w' h he => h) stable_nil)) (stableC_ext _) (by kernel_rfl) (by kernel_rfl) (Keep.drew (Keep.refl _ _)) ?_
  iterate 1
    (try simp only [Act.put, List.setIfInBounds_toArray, List.set_cons_zero, List.set_cons_succ])
    refine pure_run rfl rfl ?_
    apply Exists.intro
    refine ⟨fun w' => ?_, ?_⟩
    · go_simp
      rfl
  refine pure_nil ?_
  iterate 2
    (try simp only [Act.put, List.setIfInBounds_toArray, List.set_cons_zero, List.set_cons_succ])
    refine growP_run rfl rfl rfl ?_
    apply Exists.intro
    refine ⟨fun w' hC hK => ?_, ?_⟩
    · have q3 := (hC.cell (lt_of_cell q3) id).trans q3
      go_simp
      rfl
  (try simp only [Act.put, List.setIfInBounds_toArray, List.set_cons_zero, List.set_cons_succ])
  refine growP_eff rfl rfl rfl (fun w' hC hK => ?_) (fun v3 hv3 => ?_)
  · unfold growAt
    go_simp
    refine grow_call ((drop_no _ _ bn g1 ms z (HT.out.net.ext hC) HI.out).mono ?_)
    rintro e w'' ⟨rfl, h1⟩
    exact ⟨_, rfl, h1, rfl⟩
  obtain ⟨_, _, rfl⟩ := hv3.head
  iterate 3
    (try simp only [Act.put, List.setIfInBounds_toArray, List.set_cons_zero, List.set_cons_succ])
    refine growP_run rfl rfl rfl ?_
    apply Exists.intro
    refine ⟨fun w' hC hK => ?_, ?_⟩
    · have q3 := (hC.cell (lt_of_cell q3) id).trans q3
      go_simp
      rfl
  (try simp only [Act.put, List.setIfInBounds_toArray, List.set_cons_zero, List.set_cons_succ])
  refine growP_eff rfl rfl rfl (fun w' hC hK => ?_) (fun v7 hv7 => ?_)
  · unfold growAt
    go_simp
    refine grow_call ((rdrop_no _ _ rn g2 ms z (HT.out.ref.ext hC) HI.out).mono ?_)
    rintro e w'' ⟨rfl, h1⟩
    exact ⟨_, rfl, h1, rfl⟩
  obtain ⟨_, _, rfl⟩ := hv7.head
  iterate 1
    (try simp only [Act.put, List.setIfInBounds_toArray, List.set_cons_zero, List.set_cons_succ])
    refine growP_run rfl rfl rfl ?_
    apply Exists.intro
    refine ⟨fun w' hC hK => ?_, ?_⟩
    · go_simp
      rfl
  refine growP_nil fun wz hC hK => ?_
  have HTT := hid (HT.out.more hC)
  clear hC hK q0 q3
  change wpList _ _ _ (_ :: []) _ _
  (try simp only [Act.put, List.setIfInBounds_toArray, List.set_cons_zero, List.set_cons_succ])
  go_wp2_with fail
  refine NoPanic.normal ?_
  go_wp2
  go_ret
  exact ⟨rfl, _, _, HTT.out⟩
set_option maxRecDepth 20000 in
set_option maxHeartbeats 3200000 in
theorem does_twice (w0 w : World) (bn rn : Nat) (g1 g2 : Option Nat) (ms : List Mail) (k : UInt8) (sess : Int) (up : Bool) (A : Option Addr) (n c : Nat) (z : Int) (hk : k.toNat % 9 = 5) (i : Nat) (hi : i < ms.length) (hm20 : ms.length < 2000) (hz : z = (i : Int)) (hb6 : ms[i].b.length ≤ 60000) (new : List Mail) (hnew : (ms.take (i + 1) ++ ms[i] :: ms.drop (i + 1)) = new) (h : Pair w0 w bn rn g1 g2 ms ms) :
    Calls Try.prog 14 #[.pointer (some ⟨bn, 0, none⟩), .pointer (some ⟨rn, 0, none⟩), .agg #[U8 k, .int .i64 sess, .bool up, .slice A n c, .int .i64 z]] w (DoneN w0 bn rn new) := by
  obtain ⟨W, hW⟩ : ∃ W, w.alloc (.cells #[U8 k, .int .i64 sess, .bool up, .slice A n c, .int .i64 z] 30) = W := ⟨_, rfl⟩
  have hE : Ext w W := by rw [← hW]; exact (Keep.refl _ _).alloc _
  have hb : Blk W w.heap.size 30 #[U8 k, .int .i64 sess, .bool up, .slice A n c, .int .i64 z] := by rw [← hW]; exact Blk.new _ _ _
  have q0 := hb.cell 0
  have q3 := hb.cell 4
  simp only [List.getElem?_toArray, List.getElem?_cons_succ, List.getElem?_cons_zero] at q0 q3
  have HT := hid (h.more hE)
  have HL := hid HT.out.lw
  have HQ3 := hid q3
  have HLO := hid (show ¬ (NF bn g1 w.heap.size ∨ NF rn g2 w.heap.size) from fun hb => by
    have h1 := h.net.lt
    have h2 := h.ref.lt
    rcases hb with (h | h) | h | h
    · omega
    · have := (h1.2 _ h).2; omega
    · omega
    · have := (h2.2 _ h).2; omega)
  have hkz : ((k.toNat : Int)).tmod 9 = 5 := by rw [Int.tmod_eq_emod_of_nonneg (by omega)]; omega
  have hkz2 : (k.toNat : Int) % 9 = 5 := by omega
  clear h hE hb
  subst hz
  have HI := hid hi
  have HM := hid hm20
  have HB6 := hid hb6
  clear hb6 hm20
  have HNEW := hid hnew
  clear hnew
  go_enter Try.func14, Try.ntmps14
  go_wp2_with fail
  refine M.wp_region_once [0] [1, 2, 3, 4, 5, 6, 7, 8] [9] (M.specOf [(3, fun v w' => v = .bool true ∧ HalfN W bn rn g1 g2 new w'), (7, fun v w' => v = .bool true ∧ PBoth W bn rn g1 g2 new w' ∧ W.heap.size ≤ w'.heap.size)])
    (fun w' => Keep (fun k => NF bn g1 k ∨ NF rn g2 k) W w') (fun i w1 w' => Keep (M.effOf [(3, NF bn g1), (7, NF rn g2)] i) w1 w' ∧ (i = 3 → W.heap.size ≤ w1.heap.size → PBoth W bn rn g1 g2 new w1 → PBoth W bn rn g1 g2 new w')) (fun i w' => (i = 3 → NetAt w' (fun k => Fr bn rn g1 g2 k ∧ k < W.heap.size) bn g1 ms) ∧ (i = 7 → RnAt w' (fun k => Fr bn rn g1 g2 k ∧ k < W.heap.size) rn g2 ms))
    ?_ (fun i w1 w' hk he => M.stableC_keep (Fs := M.effOf [(3, NF bn g1), (7, NF rn g2)]) (fun i k h => by obtain ⟨x, hx, _, h⟩ := h; rcases List.mem_cons.1 hx with rfl | hx; exact .inl h; rcases List.mem_cons.1 hx with rfl | hx; exact .inr h; cases hx) _ i w1 w' hk he.1) ?_ (by kernel_rfl) (by kernel_rfl) (Keep.drew (Keep.refl _ _)) ?_ ?_
  · refine M.stable_cons (fun j hj v w w' h he => ⟨h.1, h.2.keepR HL.out he.1 fun k hf => ?_⟩) (M.stable_cons (fun j hj v w w' h he => ⟨h.1, ?_, Nat.le_trans h.2.2 he.1.size⟩) M.stable_nil)
    · rcases eff_two hf with ⟨e, _⟩ | ⟨_, hk⟩
      · exact absurd e hj
      · exact hk
    · by_cases e5 : j = 3
      · exact he.2 e5 h.2.2 h.2.1
      · refine h.2.1.keep he.1 fun k hf => ?_
        rcases eff_two hf with ⟨e, _⟩ | ⟨e, _⟩
        · exact e5 e
        · exact hj e
  · intro i j hj w w' hu he
    have hap := HL.out.ap
    refine ⟨fun e => (hu.1 e).keep he.1 (fun k hb hf => ?_) (fun k hb hf => ?_), fun e => (hu.2 e).keep he.1 (fun k hb hf => ?_) (fun k hb hf => ?_)⟩
    · rcases eff_two hf with ⟨e2, _⟩ | ⟨_, hk⟩
      · exact hj (e2.trans e.symm)
      · exact hk.elim hb.1.2.1 hb.1.2.2.2
    · rcases eff_two hf with ⟨e2, _⟩ | ⟨_, hk⟩
      · exact hj (e2.trans e.symm)
      · rcases hb with rfl | hb
        · rcases hk with hk | hk
          · exact hap.1 hk
          · exact hap.2.2.1 hk
        · rcases hk with rfl | hk
          · exact hap.2.1 hb
          · exact hap.2.2.2 k hb hk
    · rcases eff_two hf with ⟨_, hk⟩ | ⟨e2, _⟩
      · exact hk.elim hb.1.1 hb.1.2.2.1
      · exact hj (e2.trans e.symm)
    · rcases eff_two hf with ⟨_, hk⟩ | ⟨e2, _⟩
      · rcases hb with rfl | hb
        · rcases hk with hk | hk
          · exact hap.1 hk.symm
          · exact hap.2.1 hk
        · rcases hk with rfl | hk
          · exact hap.2.2.1 hb
          · exact hap.2.2.2 k hk hb
      · exact hj (e2.trans e.symm)
  · intro k _
    exact ⟨fun _ => HT.out.net.cutS.ext (Keep.refl _ W).drew, fun _ => HT.out.ref.cutS.ext (Keep.refl _ W).drew⟩
  iterate 1
    (try simp only [Act.put, List.setIfInBounds_toArray, List.set_cons_zero, List.set_cons_succ])
    refine M.pure_run rfl rfl ?_
    apply Exists.intro
    refine ⟨fun w' => ?_, ?_⟩
    · go_simp
      rfl
  refine M.pure_nil ?_
  iterate 2
    (try simp only [Act.put, List.setIfInBounds_toArray, List.set_cons_zero, List.set_cons_succ])
    refine M.u_run rfl rfl rfl ?_
    apply Exists.intro
    refine ⟨fun w' hC hU hK => ?_, ?_⟩
    · have q3' := (hC.cell (lt_of_cell HQ3.out) HLO.out).trans HQ3.out
      go_simp
      rfl
  (try simp only [Act.put, List.setIfInBounds_toArray, List.set_cons_zero, List.set_cons_succ])
  refine M.u_eff rfl rfl rfl (fun w' hC hU hK => ?_) (fun v3 hv3 => ?_)
  · unfold M.growAt
    go_simp
    refine M.grow_call ((twice_yes _ _ bn g1 ms i (hU.1 rfl) HI.out HM.out HB6.out).mono ?_)
    have hsz := hC.size
    rintro e w'' ⟨rfl, a1, h1, h3, h2⟩
    have hnp : NPost W bn rn g1 g2 new w' w'' := ⟨a1, by rw [← HNEW.out]; exact h1, h3, h2⟩
    have hh : HalfN W bn rn g1 g2 new w'' := by
      obtain ⟨a1, n1, n2, _⟩ := hnp
      refine ⟨a1, _, n1, fun k e => ?_, fun k h => ?_⟩
      · rcases n2 with h | ⟨q, h, h2⟩
        · exact .inl (h ▸ e)
        · rw [h] at e; injection e with e; exact .inr (by omega)
      · rcases h with h | h
        · exact .inl h.1
        · exact .inr (by omega)
    have hk2 : Keep (NF bn g1) w' w'' := by obtain ⟨_, _, _, h⟩ := hnp; exact h
    exact ⟨_, rfl, ⟨hk2.mono (fun k _ hk => ⟨_, List.mem_cons_self, rfl, hk⟩), fun hs hp => hp.one HL.out hs hnp⟩, by rfl, hh⟩
  obtain ⟨_, _, rfl, _⟩ := hv3
  iterate 3
    (try simp only [Act.put, List.setIfInBounds_toArray, List.set_cons_zero, List.set_cons_succ])
    refine M.u_run rfl rfl rfl ?_
    apply Exists.intro
    refine ⟨fun w' hC hU hK => ?_, ?_⟩
    · have q3' := (hC.cell (lt_of_cell HQ3.out) HLO.out).trans HQ3.out
      go_simp
      rfl
  (try simp only [Act.put, List.setIfInBounds_toArray, List.set_cons_zero, List.set_cons_succ])
  refine M.u_eff rfl rfl rfl (fun w' hC hU hK => ?_) (fun v7 hv7 => ?_)
  · have h5 := (hK.get (i := 3) List.mem_cons_self (by kernel_rfl)).2
    unfold M.growAt
    go_simp
    refine M.grow_call ((rtwice_yes _ _ rn g2 ms i (hU.2 rfl) HI.out HM.out HB6.out).mono ?_)
    have hsz := hC.size
    rintro e w'' ⟨rfl, a2, h1, h3, h2⟩
    have hrp : RPost W bn rn g1 g2 new w' w'' := ⟨a2, by rw [← HNEW.out]; exact h1, h3, h2⟩
    have hk2 : Keep (NF rn g2) w' w'' := by obtain ⟨_, _, _, h⟩ := hrp; exact h
    exact ⟨_, rfl, hk2.mono (fun k _ hk => ⟨_, List.mem_cons_of_mem _ List.mem_cons_self, rfl, hk⟩), by rfl, h5.two HL.out hsz hrp, Nat.le_trans hsz h2.size⟩
  obtain ⟨_, _, rfl, _⟩ := hv7
  iterate 1
    (try simp only [Act.put, List.setIfInBounds_toArray, List.set_cons_zero, List.set_cons_succ])
    refine M.u_run rfl rfl rfl ?_
    apply Exists.intro
    refine ⟨fun w' hC hU hK => ?_, ?_⟩
    · go_simp
      rfl
  refine M.u_nil fun wz hC hK => ?_
  have hp := (hK (7, _) List.mem_cons_self).2.1
  have hC : Keep (fun k => NF bn g1 k ∨ NF rn g2 k) W wz := hC
  have hl := HT.out.low
  have HTT := hid (PBoth.pair hp HT.out (HT.out.ext.trans hC fun k hk hb => by
    rcases hb with (rfl | h) | rfl | h
    · omega
    · have := hl.2.2.1 k h; omega
    · omega
    · have := hl.2.2.2 k h; omega))
  clear hC hK hp hl q0 q3
  change wpList _ _ _ (_ :: []) _ _
  (try simp only [Act.put, List.setIfInBounds_toArray, List.set_cons_zero, List.set_cons_succ])
  go_wp2_with fail
  refine NoPanic.normal ?_
  go_wp2
  go_ret
  exact ⟨rfl, HTT.out⟩
set_option maxRecDepth 20000 in
set_option maxHeartbeats 3200000 in
theorem does_twice_no (w0 w : World) (bn rn : Nat) (g1 g2 : Option Nat) (ms : List Mail) (k : UInt8) (sess : Int) (up : Bool) (A : Option Addr) (n c : Nat) (z : Int) (hk : k.toNat % 9 = 5) (hi : z < 0 ∨ (ms.length : Int) ≤ z) (h : Pair w0 w bn rn g1 g2 ms ms) :
    Calls Try.prog 14 #[.pointer (some ⟨bn, 0, none⟩), .pointer (some ⟨rn, 0, none⟩), .agg #[U8 k, .int .i64 sess, .bool up, .slice A n c, .int .i64 z]] w (DoneN w0 bn rn ms) := by
  obtain ⟨W, hW⟩ : ∃ W, w.alloc (.cells #[U8 k, .int .i64 sess, .bool up, .slice A n c, .int .i64 z] 30) = W := ⟨_, rfl⟩
  have hE : Ext w W := by rw [← hW]; exact (Keep.refl _ _).alloc _
  have hb : Blk W w.heap.size 30 #[U8 k, .int .i64 sess, .bool up, .slice A n c, .int .i64 z] := by rw [← hW]; exact Blk.new _ _ _
  have q0 := hb.cell 0
  have q3 := hb.cell 4
  simp only [List.getElem?_toArray, List.getElem?_cons_succ, List.getElem?_cons_zero] at q0 q3
  have HT := hid (h.more hE)
  have HL := hid HT.out.lw
  have HQ3 := hid q3
  have HLO := hid (show ¬ (NF bn g1 w.heap.size ∨ NF rn g2 w.heap.size) from fun hb => by
    have h1 := h.net.lt
    have h2 := h.ref.lt
    rcases hb with (h | h) | h | h
    · omega
    · have := (h1.2 _ h).2; omega
    · omega
    · have := (h2.2 _ h).2; omega)
  have hkz : ((k.toNat : Int)).tmod 9 = 5 := by rw [Int.tmod_eq_emod_of_nonneg (by omega)]; omega
  have hkz2 : (k.toNat : Int) % 9 = 5 := by omega
  clear h hE hb
  have HI := hid hi
  clear hi
  go_enter Try.func14, Try.ntmps14
  go_wp2_with fail
  refine wp_region_parts [0] [1, 2, 3, 4, 5, 6, 7, 8] [9] (specOf [(3, fun v w' => v = .bool false), (7, fun v w' => v = .bool false)]) (fun w' => Ext W w') (stable_cons (fun v w w' h he => h) (stable_cons (fun v w w' h he => h) stable_nil)) (stableC_ext _) (by kernel_rfl) (by kernel_rfl) (Keep.drew (Keep.refl _ _)) ?_
  iterate 1
    (try simp only [Act.put, List.setIfInBounds_toArray, List.set_cons_zero, List.set_cons_succ])
    refine pure_run rfl rfl ?_
    apply Exists.intro
    refine ⟨fun w' => ?_, ?_⟩
    · go_simp
      rfl
  refine pure_nil ?_
  iterate 2
    (try simp only [Act.put, List.setIfInBounds_toArray, List.set_cons_zero, List.set_cons_succ])
    refine growP_run rfl rfl rfl ?_
    apply Exists.intro
    refine ⟨fun w' hC hK => ?_, ?_⟩
    · have q3 := (hC.cell (lt_of_cell q3) id).trans q3
      go_simp
      rfl
  (try simp only [Act.put, List.setIfInBounds_toArray, List.set_cons_zero, List.set_cons_succ])
  refine growP_eff rfl rfl rfl (fun w' hC hK => ?_) (fun v3 hv3 => ?_)
  · unfold growAt
    go_simp
    refine grow_call ((twice_no _ _ bn g1 ms z (HT.out.net.ext hC) HI.out).mono ?_)
    rintro e w'' ⟨rfl, h1⟩
    exact ⟨_, rfl, h1 ▸ Keep.refl _ _, rfl⟩
  obtain ⟨_, _, rfl⟩ := hv3.head
  iterate 3
    (try simp only [Act.put, List.setIfInBounds_toArray, List.set_cons_zero, List.set_cons_succ])
    refine growP_run rfl rfl rfl ?_
    apply Exists.intro
    refine ⟨fun w' hC hK => ?_, ?_⟩
    · have q3 := (hC.cell (lt_of_cell q3) id).trans q3
      go_simp
      rfl
  (try simp only [Act.put, List.setIfInBounds_toArray, List.set_cons_zero, List.set_cons_succ])
  refine growP_eff rfl rfl rfl (fun w' hC hK => ?_) (fun v7 hv7 => ?_)
  · unfold growAt
    go_simp
    refine grow_call ((rtwice_no _ _ rn g2 ms z (HT.out.ref.ext hC) HI.out).mono ?_)
    rintro e w'' ⟨rfl, h1⟩
    exact ⟨_, rfl, h1 ▸ Keep.refl _ _, rfl⟩
  obtain ⟨_, _, rfl⟩ := hv7.head
  iterate 1
    (try simp only [Act.put, List.setIfInBounds_toArray, List.set_cons_zero, List.set_cons_succ])
    refine growP_run rfl rfl rfl ?_
    apply Exists.intro
    refine ⟨fun w' hC hK => ?_, ?_⟩
    · go_simp
      rfl
  refine growP_nil fun wz hC hK => ?_
  have HTT := hid (HT.out.more hC)
  clear hC hK q0 q3
  change wpList _ _ _ (_ :: []) _ _
  (try simp only [Act.put, List.setIfInBounds_toArray, List.set_cons_zero, List.set_cons_succ])
  go_wp2_with fail
  refine NoPanic.normal ?_
  go_wp2
  go_ret
  exact ⟨rfl, _, _, HTT.out⟩
set_option maxRecDepth 20000 in
set_option maxHeartbeats 3200000 in
theorem does_late (w0 w : World) (bn rn : Nat) (g1 g2 : Option Nat) (ms : List Mail) (k : UInt8) (sess : Int) (up : Bool) (A : Option Addr) (n c : Nat) (z : Int) (hk : k.toNat % 9 = 6) (i : Nat) (hi : i < ms.length) (hm20 : ms.length < 2000) (hz : z = (i : Int)) (new : List Mail) (hnew : (ms.eraseIdx i ++ [ms[i]]) = new) (h : Pair w0 w bn rn g1 g2 ms ms) :
    Calls Try.prog 14 #[.pointer (some ⟨bn, 0, none⟩), .pointer (some ⟨rn, 0, none⟩), .agg #[U8 k, .int .i64 sess, .bool up, .slice A n c, .int .i64 z]] w (DoneN w0 bn rn new) := by
  obtain ⟨W, hW⟩ : ∃ W, w.alloc (.cells #[U8 k, .int .i64 sess, .bool up, .slice A n c, .int .i64 z] 30) = W := ⟨_, rfl⟩
  have hE : Ext w W := by rw [← hW]; exact (Keep.refl _ _).alloc _
  have hb : Blk W w.heap.size 30 #[U8 k, .int .i64 sess, .bool up, .slice A n c, .int .i64 z] := by rw [← hW]; exact Blk.new _ _ _
  have q0 := hb.cell 0
  have q3 := hb.cell 4
  simp only [List.getElem?_toArray, List.getElem?_cons_succ, List.getElem?_cons_zero] at q0 q3
  have HT := hid (h.more hE)
  have HL := hid HT.out.lw
  have HQ3 := hid q3
  have HLO := hid (show ¬ (NF bn g1 w.heap.size ∨ NF rn g2 w.heap.size) from fun hb => by
    have h1 := h.net.lt
    have h2 := h.ref.lt
    rcases hb with (h | h) | h | h
    · omega
    · have := (h1.2 _ h).2; omega
    · omega
    · have := (h2.2 _ h).2; omega)
  have hkz : ((k.toNat : Int)).tmod 9 = 6 := by rw [Int.tmod_eq_emod_of_nonneg (by omega)]; omega
  have hkz2 : (k.toNat : Int) % 9 = 6 := by omega
  clear h hE hb
  subst hz
  have HI := hid hi
  have HM := hid hm20
  clear hm20
  have HNEW := hid hnew
  clear hnew
  go_enter Try.func14, Try.ntmps14
  go_wp2_with fail
  refine M.wp_region_once [0] [1, 2, 3, 4, 5, 6, 7, 8] [9] (M.specOf [(3, fun v w' => v = .bool true ∧ HalfN W bn rn g1 g2 new w'), (7, fun v w' => v = .bool true ∧ PBoth W bn rn g1 g2 new w' ∧ W.heap.size ≤ w'.heap.size)])
    (fun w' => Keep (fun k => NF bn g1 k ∨ NF rn g2 k) W w') (fun i w1 w' => Keep (M.effOf [(3, NF bn g1), (7, NF rn g2)] i) w1 w' ∧ (i = 3 → W.heap.size ≤ w1.heap.size → PBoth W bn rn g1 g2 new w1 → PBoth W bn rn g1 g2 new w')) (fun i w' => (i = 3 → NetAt w' (fun k => Fr bn rn g1 g2 k ∧ k < W.heap.size) bn g1 ms) ∧ (i = 7 → RnAt w' (fun k => Fr bn rn g1 g2 k ∧ k < W.heap.size) rn g2 ms))
    ?_ (fun i w1 w' hk he => M.stableC_keep (Fs := M.effOf [(3, NF bn g1), (7, NF rn g2)]) (fun i k h => by obtain ⟨x, hx, _, h⟩ := h; rcases List.mem_cons.1 hx with rfl | hx; exact .inl h; rcases List.mem_cons.1 hx with rfl | hx; exact .inr h; cases hx) _ i w1 w' hk he.1) ?_ (by kernel_rfl) (by kernel_rfl) (Keep.drew (Keep.refl _ _)) ?_ ?_
  · refine M.stable_cons (fun j hj v w w' h he => ⟨h.1, h.2.keepR HL.out he.1 fun k hf => ?_⟩) (M.stable_cons (fun j hj v w w' h he => ⟨h.1, ?_, Nat.le_trans h.2.2 he.1.size⟩) M.stable_nil)
    · rcases eff_two hf with ⟨e, _⟩ | ⟨_, hk⟩
      · exact absurd e hj
      · exact hk
    · by_cases e5 : j = 3
      · exact he.2 e5 h.2.2 h.2.1
      · refine h.2.1.keep he.1 fun k hf => ?_
        rcases eff_two hf with ⟨e, _⟩ | ⟨e, _⟩
        · exact e5 e
        · exact hj e
  · intro i j hj w w' hu he
    have hap := HL.out.ap
    refine ⟨fun e => (hu.1 e).keep he.1 (fun k hb hf => ?_) (fun k hb hf => ?_), fun e => (hu.2 e).keep he.1 (fun k hb hf => ?_) (fun k hb hf => ?_)⟩
    · rcases eff_two hf with ⟨e2, _⟩ | ⟨_, hk⟩
      · exact hj (e2.trans e.symm)
      · exact hk.elim hb.1.2.1 hb.1.2.2.2
    · rcases eff_two hf with ⟨e2, _⟩ | ⟨_, hk⟩
      · exact hj (e2.trans e.symm)
      · rcases hb with rfl | hb
        · rcases hk with hk | hk
          · exact hap.1 hk
          · exact hap.2.2.1 hk
        · rcases hk with rfl | hk
          · exact hap.2.1 hb
          · exact hap.2.2.2 k hb hk
    · rcases eff_two hf with ⟨_, hk⟩ | ⟨e2, _⟩
      · exact hk.elim hb.1.1 hb.1.2.2.1
      · exact hj (e2.trans e.symm)
    · rcases eff_two hf with ⟨_, hk⟩ | ⟨e2, _⟩
      · rcases hb with rfl | hb
        · rcases hk with hk | hk
          · exact hap.1 hk.symm
          · exact hap.2.1 hk
        · rcases hk with rfl | hk
          · exact hap.2.2.1 hb
          · exact hap.2.2.2 k hk hb
      · exact hj (e2.trans e.symm)
  · intro k _
    exact ⟨fun _ => HT.out.net.cutS.ext (Keep.refl _ W).drew, fun _ => HT.out.ref.cutS.ext (Keep.refl _ W).drew⟩
  iterate 1
    (try simp only [Act.put, List.setIfInBounds_toArray, List.set_cons_zero, List.set_cons_succ])
    refine M.pure_run rfl rfl ?_
    apply Exists.intro
    refine ⟨fun w' => ?_, ?_⟩
    · go_simp
      rfl
  refine M.pure_nil ?_
  iterate 2
    (try simp only [Act.put, List.setIfInBounds_toArray, List.set_cons_zero, List.set_cons_succ])
    refine M.u_run rfl rfl rfl ?_
    apply Exists.intro
    refine ⟨fun w' hC hU hK => ?_, ?_⟩
    · have q3' := (hC.cell (lt_of_cell HQ3.out) HLO.out).trans HQ3.out
      go_simp
      rfl
  (try simp only [Act.put, List.setIfInBounds_toArray, List.set_cons_zero, List.set_cons_succ])
  refine M.u_eff rfl rfl rfl (fun w' hC hU hK => ?_) (fun v3 hv3 => ?_)
  · unfold M.growAt
    go_simp
    refine M.grow_call ((late_yes _ _ bn g1 ms i (hU.1 rfl) HI.out (Nat.le_of_lt HM.out)).mono ?_)
    have hsz := hC.size
    rintro e w'' ⟨rfl, a1, h1, h3, h2⟩
    have hnp : NPost W bn rn g1 g2 new w' w'' := ⟨a1, by rw [← HNEW.out]; exact h1, h3, h2⟩
    have hh : HalfN W bn rn g1 g2 new w'' := by
      obtain ⟨a1, n1, n2, _⟩ := hnp
      refine ⟨a1, _, n1, fun k e => ?_, fun k h => ?_⟩
      · rcases n2 with h | ⟨q, h, h2⟩
        · exact .inl (h ▸ e)
        · rw [h] at e; injection e with e; exact .inr (by omega)
      · rcases h with h | h
        · exact .inl h.1
        · exact .inr (by omega)
    have hk2 : Keep (NF bn g1) w' w'' := by obtain ⟨_, _, _, h⟩ := hnp; exact h
    exact ⟨_, rfl, ⟨hk2.mono (fun k _ hk => ⟨_, List.mem_cons_self, rfl, hk⟩), fun hs hp => hp.one HL.out hs hnp⟩, by rfl, hh⟩
  obtain ⟨_, _, rfl, _⟩ := hv3
  iterate 3
    (try simp only [Act.put, List.setIfInBounds_toArray, List.set_cons_zero, List.set_cons_succ])
    refine M.u_run rfl rfl rfl ?_
    apply Exists.intro
    refine ⟨fun w' hC hU hK => ?_, ?_⟩
    · have q3' := (hC.cell (lt_of_cell HQ3.out) HLO.out).trans HQ3.out
      go_simp
      rfl
  (try simp only [Act.put, List.setIfInBounds_toArray, List.set_cons_zero, List.set_cons_succ])
  refine M.u_eff rfl rfl rfl (fun w' hC hU hK => ?_) (fun v7 hv7 => ?_)
  · have h5 := (hK.get (i := 3) List.mem_cons_self (by kernel_rfl)).2
    unfold M.growAt
    go_simp
    refine M.grow_call ((rlate_yes _ _ rn g2 ms i (hU.2 rfl) HI.out (Nat.le_of_lt HM.out)).mono ?_)
    have hsz := hC.size
    rintro e w'' ⟨rfl, a2, h1, h3, h2⟩
    have hrp : RPost W bn rn g1 g2 new w' w'' := ⟨a2, by rw [← HNEW.out]; exact h1, h3, h2⟩
    have hk2 : Keep (NF rn g2) w' w'' := by obtain ⟨_, _, _, h⟩ := hrp; exact h
    exact ⟨_, rfl, hk2.mono (fun k _ hk => ⟨_, List.mem_cons_of_mem _ List.mem_cons_self, rfl, hk⟩), by rfl, h5.two HL.out hsz hrp, Nat.le_trans hsz h2.size⟩
  obtain ⟨_, _, rfl, _⟩ := hv7
  iterate 1
    (try simp only [Act.put, List.setIfInBounds_toArray, List.set_cons_zero, List.set_cons_succ])
    refine M.u_run rfl rfl rfl ?_
    apply Exists.intro
    refine ⟨fun w' hC hU hK => ?_, ?_⟩
    · go_simp
      rfl
  refine M.u_nil fun wz hC hK => ?_
  have hp := (hK (7, _) List.mem_cons_self).2.1
  have hC : Keep (fun k => NF bn g1 k ∨ NF rn g2 k) W wz := hC
  have hl := HT.out.low
  have HTT := hid (PBoth.pair hp HT.out (HT.out.ext.trans hC fun k hk hb => by
    rcases hb with (rfl | h) | rfl | h
    · omega
    · have := hl.2.2.1 k h; omega
    · omega
    · have := hl.2.2.2 k h; omega))
  clear hC hK hp hl q0 q3
  change wpList _ _ _ (_ :: []) _ _
  (try simp only [Act.put, List.setIfInBounds_toArray, List.set_cons_zero, List.set_cons_succ])
  go_wp2_with fail
  refine NoPanic.normal ?_
  go_wp2
  go_ret
  exact ⟨rfl, HTT.out⟩
set_option maxRecDepth 20000 in
set_option maxHeartbeats 3200000 in
theorem does_late_no (w0 w : World) (bn rn : Nat) (g1 g2 : Option Nat) (ms : List Mail) (k : UInt8) (sess : Int) (up : Bool) (A : Option Addr) (n c : Nat) (z : Int) (hk : k.toNat % 9 = 6) (hi : z < 0 ∨ (ms.length : Int) ≤ z) (h : Pair w0 w bn rn g1 g2 ms ms) :
    Calls Try.prog 14 #[.pointer (some ⟨bn, 0, none⟩), .pointer (some ⟨rn, 0, none⟩), .agg #[U8 k, .int .i64 sess, .bool up, .slice A n c, .int .i64 z]] w (DoneN w0 bn rn ms) := by
  obtain ⟨W, hW⟩ : ∃ W, w.alloc (.cells #[U8 k, .int .i64 sess, .bool up, .slice A n c, .int .i64 z] 30) = W := ⟨_, rfl⟩
  have hE : Ext w W := by rw [← hW]; exact (Keep.refl _ _).alloc _
  have hb : Blk W w.heap.size 30 #[U8 k, .int .i64 sess, .bool up, .slice A n c, .int .i64 z] := by rw [← hW]; exact Blk.new _ _ _
  have q0 := hb.cell 0
  have q3 := hb.cell 4
  simp only [List.getElem?_toArray, List.getElem?_cons_succ, List.getElem?_cons_zero] at q0 q3
  have HT := hid (h.more hE)
  have HL := hid HT.out.lw
  have HQ3 := hid q3
  have HLO := hid (show ¬ (NF bn g1 w.heap.size ∨ NF rn g2 w.heap.size) from fun hb => by
    have h1 := h.net.lt
    have h2 := h.ref.lt
    rcases hb with (h | h) | h | h
    · omega
    · have := (h1.2 _ h).2; omega
    · omega
    · have := (h2.2 _ h).2; omega)
  have hkz : ((k.toNat : Int)).tmod 9 = 6 := by rw [Int.tmod_eq_emod_of_nonneg (by omega)]; omega
  have hkz2 : (k.toNat : Int) % 9 = 6 := by omega
  clear h hE hb
  have HI := hid hi
  clear hi
  go_enter Try.func14, Try.ntmps14
  go_wp2_with fail
  refine wp_region_parts [0] [1, 2, 3, 4, 5, 6, 7, 8] [9] (specOf [(3, fun v w' => v = .bool false), (7, fun v w' => v = .bool false)]) (fun w' => Ext W w') (stable_cons (fun v w w' h he => h) (stable_cons (fun v w w' h he => h) stable_nil)) (stableC_ext _) (by kernel_rfl) (by kernel_rfl) (Keep.drew (Keep.refl _ _)) ?_
  iterate 1
    (try simp only [Act.put, List.setIfInBounds_toArray, List.set_cons_zero, List.set_cons_succ])
    refine pure_run rfl rfl ?_
    apply Exists.intro
    refine ⟨fun w' => ?_, ?_⟩
    · go_simp
      rfl
  refine pure_nil ?_
  iterate 2
    (try simp only [Act.put, List.setIfInBounds_toArray, List.set_cons_zero, List.set_cons_succ])
    refine growP_run rfl rfl rfl ?_
    apply Exists.intro
    refine ⟨fun w' hC hK => ?_, ?_⟩
    · have q3 := (hC.cell (lt_of_cell q3) id).trans q3
      go_simp
      rfl
  (try simp only [Act.put, List.setIfInBounds_toArray, List.set_cons_zero, List.set_cons_succ])
  refine growP_eff rfl rfl rfl (fun w' hC hK => ?_) (fun v3 hv3 => ?_)
  · unfold growAt
    go_simp
    refine grow_call ((late_no _ _ bn g1 ms z (HT.out.net.ext hC) HI.out).mono ?_)
    rintro e w'' ⟨rfl, h1⟩
    exact ⟨_, rfl, h1, rfl⟩
  obtain ⟨_, _, rfl⟩ := hv3.head
  iterate 3
    (try simp only [Act.put, List.setIfInBounds_toArray, List.set_cons_zero, List.set_cons_succ])
    refine growP_run rfl rfl rfl ?_
    apply Exists.intro
    refine ⟨fun w' hC hK => ?_, ?_⟩
    · have q3 := (hC.cell (lt_of_cell q3) id).trans q3
      go_simp
      rfl
  (try simp only [Act.put, List.setIfInBounds_toArray, List.set_cons_zero, List.set_cons_succ])
  refine growP_eff rfl rfl rfl (fun w' hC hK => ?_) (fun v7 hv7 => ?_)
  · unfold growAt
    go_simp
    refine grow_call ((rlate_no _ _ rn g2 ms z (HT.out.ref.ext hC) HI.out).mono ?_)
    rintro e w'' ⟨rfl, h1⟩
    exact ⟨_, rfl, h1, rfl⟩
  obtain ⟨_, _, rfl⟩ := hv7.head
  iterate 1
    (try simp only [Act.put, List.setIfInBounds_toArray, List.set_cons_zero, List.set_cons_succ])
    refine growP_run rfl rfl rfl ?_
    apply Exists.intro
    refine ⟨fun w' hC hK => ?_, ?_⟩
    · go_simp
      rfl
  refine growP_nil fun wz hC hK => ?_
  have HTT := hid (HT.out.more hC)
  clear hC hK q0 q3
  change wpList _ _ _ (_ :: []) _ _
  (try simp only [Act.put, List.setIfInBounds_toArray, List.set_cons_zero, List.set_cons_succ])
  go_wp2_with fail
  refine NoPanic.normal ?_
  go_wp2
  go_ret
  exact ⟨rfl, _, _, HTT.out⟩
set_option maxRecDepth 20000 in
set_option maxHeartbeats 3200000 in
theorem does_cut (w0 w : World) (bn rn : Nat) (g1 g2 : Option Nat) (ms : List Mail) (k : UInt8) (sess : Int) (up : Bool) (A : Option Addr) (n c : Nat) (z : Int) (hk : k.toNat % 9 = 7) (hm20 : ms.length < 2000) (new : List Mail) (hnew : (ms.filter (other sess)) = new) (h : Pair w0 w bn rn g1 g2 ms ms) :
    Calls Try.prog 14 #[.pointer (some ⟨bn, 0, none⟩), .pointer (some ⟨rn, 0, none⟩), .agg #[U8 k, .int .i64 sess, .bool up, .slice A n c, .int .i64 z]] w (DoneN w0 bn rn new) := by
  obtain ⟨W, hW⟩ : ∃ W, w.alloc (.cells #[U8 k, .int .i64 sess, .bool up, .slice A n c, .int .i64 z] 30) = W := ⟨_, rfl⟩
  have hE : Ext w W := by rw [← hW]; exact (Keep.refl _ _).alloc _
  have hb : Blk W w.heap.size 30 #[U8 k, .int .i64 sess, .bool up, .slice A n c, .int .i64 z] := by rw [← hW]; exact Blk.new _ _ _
  have q0 := hb.cell 0
  have q3 := hb.cell 1
  simp only [List.getElem?_toArray, List.getElem?_cons_succ, List.getElem?_cons_zero] at q0 q3
  have HT := hid (h.more hE)
  have HL := hid HT.out.lw
  have HQ3 := hid q3
  have HLO := hid (show ¬ (NF bn g1 w.heap.size ∨ NF rn g2 w.heap.size) from fun hb => by
    have h1 := h.net.lt
    have h2 := h.ref.lt
    rcases hb with (h | h) | h | h
    · omega
    · have := (h1.2 _ h).2; omega
    · omega
    · have := (h2.2 _ h).2; omega)
  have hkz : ((k.toNat : Int)).tmod 9 = 7 := by rw [Int.tmod_eq_emod_of_nonneg (by omega)]; omega
  have hkz2 : (k.toNat : Int) % 9 = 7 := by omega
  clear h hE hb
  have HM := hid hm20
  clear hm20
  obtain ⟨q, hq⟩ : ∃ q : Int, (ms.length : Int) - ((ms.filter (other sess)).length : Int) = q := ⟨_, rfl⟩
  have HQ := hid hq
  clear hq
  have hqq : (q == q) = true := by simp
  have HNEW := hid hnew
  clear hnew
  go_enter Try.func14, Try.ntmps14
  go_wp2_with fail
  refine M.wp_region_once [0] [1, 2, 3, 4, 5, 6, 7, 8] [9] (M.specOf [(3, fun v w' => v = .int .i64 q ∧ HalfN W bn rn g1 g2 new w'), (7, fun v w' => v = .int .i64 q ∧ PBoth W bn rn g1 g2 new w' ∧ W.heap.size ≤ w'.heap.size)])
    (fun w' => Keep (fun k => NF bn g1 k ∨ NF rn g2 k) W w') (fun i w1 w' => Keep (M.effOf [(3, NF bn g1), (7, NF rn g2)] i) w1 w' ∧ (i = 3 → W.heap.size ≤ w1.heap.size → PBoth W bn rn g1 g2 new w1 → PBoth W bn rn g1 g2 new w')) (fun i w' => (i = 3 → NetAt w' (fun k => Fr bn rn g1 g2 k ∧ k < W.heap.size) bn g1 ms) ∧ (i = 7 → RnAt w' (fun k => Fr bn rn g1 g2 k ∧ k < W.heap.size) rn g2 ms))
    ?_ (fun i w1 w' hk he => M.stableC_keep (Fs := M.effOf [(3, NF bn g1), (7, NF rn g2)]) (fun i k h => by obtain ⟨x, hx, _, h⟩ := h; rcases List.mem_cons.1 hx with rfl | hx; exact .inl h; rcases List.mem_cons.1 hx with rfl | hx; exact .inr h; cases hx) _ i w1 w' hk he.1) ?_ (by kernel_rfl) (by kernel_rfl) (Keep.drew (Keep.refl _ _)) ?_ ?_
  · refine M.stable_cons (fun j hj v w w' h he => ⟨h.1, h.2.keepR HL.out he.1 fun k hf => ?_⟩) (M.stable_cons (fun j hj v w w' h he => ⟨h.1, ?_, Nat.le_trans h.2.2 he.1.size⟩) M.stable_nil)
    · rcases eff_two hf with ⟨e, _⟩ | ⟨_, hk⟩
      · exact absurd e hj
      · exact hk
    · by_cases e5 : j = 3
      · exact he.2 e5 h.2.2 h.2.1
      · refine h.2.1.keep he.1 fun k hf => ?_
        rcases eff_two hf with ⟨e, _⟩ | ⟨e, _⟩
        · exact e5 e
        · exact hj e
  · intro i j hj w w' hu he
    have hap := HL.out.ap
    refine ⟨fun e => (hu.1 e).keep he.1 (fun k hb hf => ?_) (fun k hb hf => ?_), fun e => (hu.2 e).keep he.1 (fun k hb hf => ?_) (fun k hb hf => ?_)⟩
    · rcases eff_two hf with ⟨e2, _⟩ | ⟨_, hk⟩
      · exact hj (e2.trans e.symm)
      · exact hk.elim hb.1.2.1 hb.1.2.2.2
    · rcases eff_two hf with ⟨e2, _⟩ | ⟨_, hk⟩
      · exact hj (e2.trans e.symm)
      · rcases hb with rfl | hb
        · rcases hk with hk | hk
          · exact hap.1 hk
          · exact hap.2.2.1 hk
        · rcases hk with rfl | hk
          · exact hap.2.1 hb
          · exact hap.2.2.2 k hb hk
    · rcases eff_two hf with ⟨_, hk⟩ | ⟨e2, _⟩
      · exact hk.elim hb.1.1 hb.1.2.2.1
      · exact hj (e2.trans e.symm)
    · rcases eff_two hf with ⟨_, hk⟩ | ⟨e2, _⟩
      · rcases hb with rfl | hb
        · rcases hk with hk | hk
          · exact hap.1 hk.symm
          · exact hap.2.1 hk
        · rcases hk with rfl | hk
          · exact hap.2.2.1 hb
          · exact hap.2.2.2 k hk hb
      · exact hj (e2.trans e.symm)
  · intro k _
    exact ⟨fun _ => HT.out.net.cutS.ext (Keep.refl _ W).drew, fun _ => HT.out.ref.cutS.ext (Keep.refl _ W).drew⟩
  iterate 1
    (try simp only [Act.put, List.setIfInBounds_toArray, List.set_cons_zero, List.set_cons_succ])
    refine M.pure_run rfl rfl ?_
    apply Exists.intro
    refine ⟨fun w' => ?_, ?_⟩
    · go_simp
      rfl
  refine M.pure_nil ?_
  iterate 2
    (try simp only [Act.put, List.setIfInBounds_toArray, List.set_cons_zero, List.set_cons_succ])
    refine M.u_run rfl rfl rfl ?_
    apply Exists.intro
    refine ⟨fun w' hC hU hK => ?_, ?_⟩
    · have q3' := (hC.cell (lt_of_cell HQ3.out) HLO.out).trans HQ3.out
      go_simp
      rfl
  (try simp only [Act.put, List.setIfInBounds_toArray, List.set_cons_zero, List.set_cons_succ])
  refine M.u_eff rfl rfl rfl (fun w' hC hU hK => ?_) (fun v3 hv3 => ?_)
  · unfold M.growAt
    go_simp
    refine M.grow_call ((cut_ok _ _ bn g1 ms sess (hU.1 rfl)).mono ?_)
    have hsz := hC.size
    rintro e w'' ⟨rfl, h1, h2⟩
    have hnp : NPost W bn rn g1 g2 new w' w'' := NPost.of_same HL.out (by rw [← HNEW.out]; exact h1) hsz h2
    have hh : HalfN W bn rn g1 g2 new w'' := by
      obtain ⟨a1, n1, n2, _⟩ := hnp
      refine ⟨a1, _, n1, fun k e => ?_, fun k h => ?_⟩
      · rcases n2 with h | ⟨q, h, h2⟩
        · exact .inl (h ▸ e)
        · rw [h] at e; injection e with e; exact .inr (by omega)
      · rcases h with h | h
        · exact .inl h.1
        · exact .inr (by omega)
    have hk2 : Keep (NF bn g1) w' w'' := by obtain ⟨_, _, _, h⟩ := hnp; exact h
    exact ⟨_, rfl, ⟨hk2.mono (fun k _ hk => ⟨_, List.mem_cons_self, rfl, hk⟩), fun hs hp => hp.one HL.out hs hnp⟩, by rw [HQ.out], hh⟩
  obtain ⟨_, _, rfl, _⟩ := hv3
  iterate 3
    (try simp only [Act.put, List.setIfInBounds_toArray, List.set_cons_zero, List.set_cons_succ])
    refine M.u_run rfl rfl rfl ?_
    apply Exists.intro
    refine ⟨fun w' hC hU hK => ?_, ?_⟩
    · have q3' := (hC.cell (lt_of_cell HQ3.out) HLO.out).trans HQ3.out
      go_simp
      rfl
  (try simp only [Act.put, List.setIfInBounds_toArray, List.set_cons_zero, List.set_cons_succ])
  refine M.u_eff rfl rfl rfl (fun w' hC hU hK => ?_) (fun v7 hv7 => ?_)
  · have h5 := (hK.get (i := 3) List.mem_cons_self (by kernel_rfl)).2
    unfold M.growAt
    go_simp
    refine M.grow_call ((rcut_ok _ _ rn g2 ms sess (hU.2 rfl) (Nat.le_of_lt HM.out)).mono ?_)
    have hsz := hC.size
    rintro e w'' ⟨rfl, a2, h1, h3, h2⟩
    have hrp : RPost W bn rn g1 g2 new w' w'' := ⟨a2, by rw [← HNEW.out]; exact h1, h3, h2⟩
    have hk2 : Keep (NF rn g2) w' w'' := by obtain ⟨_, _, _, h⟩ := hrp; exact h
    exact ⟨_, rfl, hk2.mono (fun k _ hk => ⟨_, List.mem_cons_of_mem _ List.mem_cons_self, rfl, hk⟩), by rw [HQ.out], h5.two HL.out hsz hrp, Nat.le_trans hsz h2.size⟩
  obtain ⟨_, _, rfl, _⟩ := hv7
  iterate 1
    (try simp only [Act.put, List.setIfInBounds_toArray, List.set_cons_zero, List.set_cons_succ])
    refine M.u_run rfl rfl rfl ?_
    apply Exists.intro
    refine ⟨fun w' hC hU hK => ?_, ?_⟩
    · go_simp
      rfl
  refine M.u_nil fun wz hC hK => ?_
  have hp := (hK (7, _) List.mem_cons_self).2.1
  have hC : Keep (fun k => NF bn g1 k ∨ NF rn g2 k) W wz := hC
  have hl := HT.out.low
  have HTT := hid (PBoth.pair hp HT.out (HT.out.ext.trans hC fun k hk hb => by
    rcases hb with (rfl | h) | rfl | h
    · omega
    · have := hl.2.2.1 k h; omega
    · omega
    · have := hl.2.2.2 k h; omega))
  clear hC hK hp hl q0 q3
  change wpList _ _ _ (_ :: []) _ _
  (try simp only [Act.put, List.setIfInBounds_toArray, List.set_cons_zero, List.set_cons_succ])
  go_wp2_with fail
  refine NoPanic.normal ?_
  go_wp2
  go_ret
  exact ⟨rfl, HTT.out⟩
end Go.Proofs.Ytjpbfdkpkeaofaa
