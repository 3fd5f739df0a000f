/- RDS, RDT, RDU, RDV in one. -/
import Derived.Test.YtikophoopapngaaRDR
set_option linter.unusedSimpArgs false
set_option linter.unusedVariables false
/- The law's does: Sync. -/
namespace Go.Proofs.Ytikophoopapngaa
open Go.RowKit
set_option linter.unusedVariables false

theorem eff_two {i j : Nat} {P Q : Nat → Prop} {l k : Nat} (h : M.effOf [(i, P), (j, Q)] l k) : (l = i ∧ P k) ∨ (l = j ∧ Q k) := by
  obtain ⟨x, hx, e, hk⟩ := h
  rcases List.mem_cons.1 hx with rfl | hx
  · exact .inl ⟨e.symm, hk⟩
  · rcases List.mem_cons.1 hx with rfl | hx
    · exact .inr ⟨e.symm, hk⟩
    · cases hx
set_option maxRecDepth 20000 in
set_option maxHeartbeats 3200000 in
theorem does_sync (w0 w : World) (B1 B2 : BS) (d r : Nat) (cs : List DC) (s : DSt) (k : UInt8) (nm : ByteArray) (A : Option Addr) (n c : Nat) (z : Int) (hk : k.toNat % 12 = 4) (HZ : nm.size ≤ maxLen) (h : Twin w0 w B1 B2 d r cs s) :
    Calls Try.prog 20 #[.pointer (some ⟨d, 0, none⟩), .pointer (some ⟨r, 0, none⟩), .agg #[U8 k, .string nm, .slice A n c, .int .i64 z]] w (DoesIs w0 d r ((syncR cs s nm.data.toList).2, { s with left := leftC s.left })) := by
  obtain ⟨W, hW⟩ : ∃ W, w.alloc (.cells #[U8 k, .string nm, .slice A n c, .int .i64 z] 42) = W := ⟨_, rfl⟩
  have hE : Ext w W := by rw [← hW]; exact (Keep.refl _ _).alloc _
  have hb : Blk W w.heap.size 42 #[U8 k, .string nm, .slice A n c, .int .i64 z] := by rw [← hW]; exact Blk.new _ _ _
  have q0 := hb.cell 0
  have q3 := hb.cell 1
  simp only [List.getElem?_toArray, List.getElem?_cons_succ, List.getElem?_cons_zero] at q0 q3
  have HT := hid (h.more hE)
  have HQ3 := hid q3
  have HLO := hid (show ¬ B1 w.heap.size from fun hb => by have := (h.disk.low _ hb).2; omega)
  have HLO2 := hid (show ¬ (B1 w.heap.size ∨ B2 w.heap.size) from fun hb => by rcases hb with hb | hb; have := (h.disk.low _ hb).2; omega; have := (h.low _ hb).2; omega)
  have hkz : ((k.toNat : Int)).tmod 12 = 4 := by rw [Int.tmod_eq_emod_of_nonneg (by omega)]; omega
  have hkz2 : (k.toNat : Int) % 12 = 4 := by omega
  clear h hE hb
  obtain ⟨code, hcode⟩ : ∃ code, (syncR cs s nm.data.toList).1 = code := ⟨_, rfl⟩
  obtain ⟨cs', hx⟩ : ∃ cs', (syncR cs s nm.data.toList).2 = cs' := ⟨_, rfl⟩
  have hcd : code = 0 ∨ code = 130 ∨ code = 131 := by rw [← hcode]; unfold syncR; split <;> (try split) <;> simp
  have hwc : IntKind.i64.wrap code = code := by rcases hcd with h | h | h <;> rw [h] <;> rfl
  have HC0 := hid hcode
  have HX0 := hid hx
  clear hcd hcode hx
  go_enter Try.func20, Try.ntmps20
  go_wp2_with fail
  refine M.wp_region_once [0] [1, 2, 3, 4, 5, 6, 7, 8, 9] [10] (M.specOf [(3, fun v w' => v = .int .u16 code ∧ DiskIs w' B1 d cs' { s with left := leftC s.left }), (8, fun v w' => v = .int .i64 code ∧ RdIs w' (moreB B2 W w') r cs' { s with left := leftC s.left })])
    (fun w' => Keep (fun k => B1 k ∨ B2 k) W w') (fun i => Keep (M.effOf [(3, B1), (8, B2)] i)) (fun i w' => (i = 3 → DiskIs w' B1 d cs s) ∧ (i = 8 → RdIs w' B2 r cs s))
    ?_ (M.stableC_keep (fun i k h => by obtain ⟨x, hx, _, h⟩ := h; rcases List.mem_cons.1 hx with rfl | hx; exact .inl h; rcases List.mem_cons.1 hx with rfl | hx; exact .inr h; cases hx) _) ?_ (by kernel_rfl) (by kernel_rfl) (Keep.drew (Keep.refl _ _)) ?_ ?_
  · refine M.stable_cons (fun j hj v w w' h he => ⟨h.1, h.2.keep he fun k hb hf => ?_⟩) (M.stable_cons (fun j hj v w w' h he => ⟨h.1, (h.2.keep he fun k hb hf => ?_).more fun k _ hb => hb.elim .inl fun hb => .inr ⟨hb.1, Nat.lt_of_lt_of_le hb.2 he.size⟩⟩) M.stable_nil)
    · rcases eff_two hf with ⟨e, _⟩ | ⟨_, hk⟩
      · exact hj e
      · exact HT.out.apart k hb hk
    · rcases eff_two hf with ⟨_, hk⟩ | ⟨e, _⟩
      · rcases hb with hb | hb
        · exact HT.out.apart k hk hb
        · have := (HT.out.disk.low k hk).2; omega
      · exact hj e
  · intro i j hj w w' hu he
    refine ⟨fun e => (hu.1 e).keep he fun k hb hf => ?_, fun e => (hu.2 e).keep he fun k hb hf => ?_⟩
    · rcases eff_two hf with ⟨e2, _⟩ | ⟨_, hk⟩
      · exact hj (e2.trans e.symm)
      · exact HT.out.apart k hb hk
    · rcases eff_two hf with ⟨_, hk⟩ | ⟨e2, _⟩
      · exact HT.out.apart k hk hb
      · exact hj (e2.trans e.symm)
  · intro k _
    exact ⟨fun _ => HT.out.disk.is.keep ((Keep.refl (fun _ => False) W).drew) fun _ _ x => x, fun _ => HT.out.ref.keep ((Keep.refl (fun _ => False) W).drew) fun _ _ x => x⟩
  iterate 1
    (try simp only [Act.put, List.setIfInBounds_toArray, List.set_cons_zero, List.set_cons_succ])
    refine M.pure_run rfl rfl ?_
    apply Exists.intro
    refine ⟨fun w' => ?_, ?_⟩
    · go_simp
      rfl
  refine M.pure_nil ?_
  iterate 2
    (try simp only [Act.put, List.setIfInBounds_toArray, List.set_cons_zero, List.set_cons_succ])
    refine M.u_run rfl rfl rfl ?_
    apply Exists.intro
    refine ⟨fun w' hC hU hK => ?_, ?_⟩
    · have q3' := (hC.cell (lt_of_cell HQ3.out) HLO2.out).trans HQ3.out
      go_simp
      rfl
  (try simp only [Act.put, List.setIfInBounds_toArray, List.set_cons_zero, List.set_cons_succ])
  refine M.u_eff rfl rfl rfl (fun w' hC hU hK => ?_) (fun v3 hv3 => ?_)
  · unfold M.growAt
    go_simp
    refine M.grow_call ((disk_sync _ B1 d cs s nm (hU.1 rfl) HZ).mono ?_)
    rintro e w'' ⟨rfl, h1, h2⟩
    exact ⟨_, rfl, h2.mono (fun k _ hk => ⟨_, List.mem_cons_self, rfl, hk⟩), by rw [HC0.out], by rw [← HX0.out]; exact h1⟩
  obtain ⟨_, _, rfl, _⟩ := hv3
  iterate 4
    (try simp only [Act.put, List.setIfInBounds_toArray, List.set_cons_zero, List.set_cons_succ])
    refine M.u_run rfl rfl rfl ?_
    apply Exists.intro
    refine ⟨fun w' hC hU hK => ?_, ?_⟩
    · have q3' := (hC.cell (lt_of_cell HQ3.out) HLO2.out).trans HQ3.out
      go_simp
      rfl
  (try simp only [Act.put, List.setIfInBounds_toArray, List.set_cons_zero, List.set_cons_succ])
  refine M.u_eff rfl rfl rfl (fun w' hC hU hK => ?_) (fun v8 hv8 => ?_)
  · unfold M.growAt
    go_simp
    refine M.grow_call ((ref_sync _ B2 r cs s nm HT.out.disk.is.1.left HT.out.good.1.pw (hU.2 rfl)).mono ?_)
    rintro e w'' ⟨rfl, h1, h2⟩
    have hsz := hC.size
    exact ⟨_, rfl, h2.mono (fun k _ hk => ⟨_, List.mem_cons_of_mem _ List.mem_cons_self, rfl, hk⟩), by rw [HC0.out], by rw [← HX0.out]; exact h1.more fun k _ hb => hb.elim .inl fun hb => .inr ⟨by omega, hb.2⟩⟩
  obtain ⟨_, _, rfl, _⟩ := hv8
  iterate 1
    (try simp only [Act.put, List.setIfInBounds_toArray, List.set_cons_zero, List.set_cons_succ])
    refine M.u_run rfl rfl rfl ?_
    apply Exists.intro
    refine ⟨fun w' hC hU hK => ?_, ?_⟩
    · go_simp
      rfl
  refine M.u_nil fun wz hC hK => ?_
  have hr : RdIs wz (moreB B2 W wz) r cs' { s with left := leftC s.left } := (hK (8, _) List.mem_cons_self).2
  have hd : DiskIs wz B1 d cs' { s with left := leftC s.left } := (hK (3, _) (List.mem_cons_of_mem _ List.mem_cons_self)).2
  have hC : Keep (fun k => B1 k ∨ B2 k) W wz := hC
  have hg : GoodC cs' := by rw [← HX0.out]; exact HT.out.good.sync s _
  have hsz := hC.size
  have h0 := HT.out.disk.ext.size
  have HTT := hid (show Twin w0 wz B1 (moreB B2 W wz) d r cs' { s with left := leftC s.left } from
    ⟨⟨hd, fun k hk => ⟨(HT.out.disk.low k hk).1, Nat.lt_of_lt_of_le (HT.out.disk.low k hk).2 hsz⟩, HT.out.disk.ext.trans hC fun k hk hb => by rcases hb with hb | hb; have := (HT.out.disk.low k hb).1; omega; have := (HT.out.low k hb).1; omega⟩,
      hr, fun k hk => by rcases hk with hk | hk; have := HT.out.low k hk; exact ⟨this.1, by omega⟩; exact ⟨by omega, hk.2⟩, hg, fun k h1 h2 => by rcases h2 with h2 | h2; exact HT.out.apart k h1 h2; have := (HT.out.disk.low k h1).2; omega⟩)
  clear hC hK hr hd hg hsz h0 q0 q3
  change wpList _ _ _ (_ :: []) _ _
  (try simp only [Act.put, List.setIfInBounds_toArray, List.set_cons_zero, List.set_cons_succ])
  go_wp2_with fail
  refine NoPanic.normal ?_
  go_wp2
  go_ret
  rw [HX0.out]
  exact ⟨rfl, _, _, HTT.out⟩
end Go.Proofs.Ytikophoopapngaa

/- The law's does: Sync, Drop, Cut. -/
namespace Go.Proofs.Ytikophoopapngaa
open Go.RowKit
set_option linter.unusedVariables false

set_option maxRecDepth 20000 in
set_option maxHeartbeats 3200000 in
theorem does_sync5 (w0 w : World) (B1 B2 : BS) (d r : Nat) (cs : List DC) (s : DSt) (k : UInt8) (nm : ByteArray) (A : Option Addr) (n c : Nat) (z : Int) (hk : k.toNat % 12 = 5) (HZ : nm.size ≤ maxLen) (h : Twin w0 w B1 B2 d r cs s) :
    Calls Try.prog 20 #[.pointer (some ⟨d, 0, none⟩), .pointer (some ⟨r, 0, none⟩), .agg #[U8 k, .string nm, .slice A n c, .int .i64 z]] w (DoesIs w0 d r ((syncR cs s nm.data.toList).2, { s with left := leftC s.left })) := by
  obtain ⟨W, hW⟩ : ∃ W, w.alloc (.cells #[U8 k, .string nm, .slice A n c, .int .i64 z] 42) = W := ⟨_, rfl⟩
  have hE : Ext w W := by rw [← hW]; exact (Keep.refl _ _).alloc _
  have hb : Blk W w.heap.size 42 #[U8 k, .string nm, .slice A n c, .int .i64 z] := by rw [← hW]; exact Blk.new _ _ _
  have q0 := hb.cell 0
  have q3 := hb.cell 1
  simp only [List.getElem?_toArray, List.getElem?_cons_succ, List.getElem?_cons_zero] at q0 q3
  have HT := hid (h.more hE)
  have HQ3 := hid q3
  have HLO := hid (show ¬ B1 w.heap.size from fun hb => by have := (h.disk.low _ hb).2; omega)
  have HLO2 := hid (show ¬ (B1 w.heap.size ∨ B2 w.heap.size) from fun hb => by rcases hb with hb | hb; have := (h.disk.low _ hb).2; omega; have := (h.low _ hb).2; omega)
  have hkz : ((k.toNat : Int)).tmod 12 = 5 := by rw [Int.tmod_eq_emod_of_nonneg (by omega)]; omega
  have hkz2 : (k.toNat : Int) % 12 = 5 := by omega
  clear h hE hb
  obtain ⟨code, hcode⟩ : ∃ code, (syncR cs s nm.data.toList).1 = code := ⟨_, rfl⟩
  obtain ⟨cs', hx⟩ : ∃ cs', (syncR cs s nm.data.toList).2 = cs' := ⟨_, rfl⟩
  have hcd : code = 0 ∨ code = 130 ∨ code = 131 := by rw [← hcode]; unfold syncR; split <;> (try split) <;> simp
  have hwc : IntKind.i64.wrap code = code := by rcases hcd with h | h | h <;> rw [h] <;> rfl
  have HC0 := hid hcode
  have HX0 := hid hx
  clear hcd hcode hx
  go_enter Try.func20, Try.ntmps20
  go_wp2_with fail
  refine M.wp_region_once [0] [1, 2, 3, 4, 5, 6, 7, 8, 9] [10] (M.specOf [(3, fun v w' => v = .int .u16 code ∧ DiskIs w' B1 d cs' { s with left := leftC s.left }), (8, fun v w' => v = .int .i64 code ∧ RdIs w' (moreB B2 W w') r cs' { s with left := leftC s.left })])
    (fun w' => Keep (fun k => B1 k ∨ B2 k) W w') (fun i => Keep (M.effOf [(3, B1), (8, B2)] i)) (fun i w' => (i = 3 → DiskIs w' B1 d cs s) ∧ (i = 8 → RdIs w' B2 r cs s))
    ?_ (M.stableC_keep (fun i k h => by obtain ⟨x, hx, _, h⟩ := h; rcases List.mem_cons.1 hx with rfl | hx; exact .inl h; rcases List.mem_cons.1 hx with rfl | hx; exact .inr h; cases hx) _) ?_ (by kernel_rfl) (by kernel_rfl) (Keep.drew (Keep.refl _ _)) ?_ ?_
  · refine M.stable_cons (fun j hj v w w' h he => ⟨h.1, h.2.keep he fun k hb hf => ?_⟩) (M.stable_cons (fun j hj v w w' h he => ⟨h.1, (h.2.keep he fun k hb hf => ?_).more fun k _ hb => hb.elim .inl fun hb => .inr ⟨hb.1, Nat.lt_of_lt_of_le hb.2 he.size⟩⟩) M.stable_nil)
    · rcases eff_two hf with ⟨e, _⟩ | ⟨_, hk⟩
      · exact hj e
      · exact HT.out.apart k hb hk
    · rcases eff_two hf with ⟨_, hk⟩ | ⟨e, _⟩
      · rcases hb with hb | hb
        · exact HT.out.apart k hk hb
        · have := (HT.out.disk.low k hk).2; omega
      · exact hj e
  · intro i j hj w w' hu he
    refine ⟨fun e => (hu.1 e).keep he fun k hb hf => ?_, fun e => (hu.2 e).keep he fun k hb hf => ?_⟩
    · rcases eff_two hf with ⟨e2, _⟩ | ⟨_, hk⟩
      · exact hj (e2.trans e.symm)
      · exact HT.out.apart k hb hk
    · rcases eff_two hf with ⟨_, hk⟩ | ⟨e2, _⟩
      · exact HT.out.apart k hk hb
      · exact hj (e2.trans e.symm)
  · intro k _
    exact ⟨fun _ => HT.out.disk.is.keep ((Keep.refl (fun _ => False) W).drew) fun _ _ x => x, fun _ => HT.out.ref.keep ((Keep.refl (fun _ => False) W).drew) fun _ _ x => x⟩
  iterate 1
    (try simp only [Act.put, List.setIfInBounds_toArray, List.set_cons_zero, List.set_cons_succ])
    refine M.pure_run rfl rfl ?_
    apply Exists.intro
    refine ⟨fun w' => ?_, ?_⟩
    · go_simp
      rfl
  refine M.pure_nil ?_
  iterate 2
    (try simp only [Act.put, List.setIfInBounds_toArray, List.set_cons_zero, List.set_cons_succ])
    refine M.u_run rfl rfl rfl ?_
    apply Exists.intro
    refine ⟨fun w' hC hU hK => ?_, ?_⟩
    · have q3' := (hC.cell (lt_of_cell HQ3.out) HLO2.out).trans HQ3.out
      go_simp
      rfl
  (try simp only [Act.put, List.setIfInBounds_toArray, List.set_cons_zero, List.set_cons_succ])
  refine M.u_eff rfl rfl rfl (fun w' hC hU hK => ?_) (fun v3 hv3 => ?_)
  · unfold M.growAt
    go_simp
    refine M.grow_call ((disk_sync _ B1 d cs s nm (hU.1 rfl) HZ).mono ?_)
    rintro e w'' ⟨rfl, h1, h2⟩
    exact ⟨_, rfl, h2.mono (fun k _ hk => ⟨_, List.mem_cons_self, rfl, hk⟩), by rw [HC0.out], by rw [← HX0.out]; exact h1⟩
  obtain ⟨_, _, rfl, _⟩ := hv3
  iterate 4
    (try simp only [Act.put, List.setIfInBounds_toArray, List.set_cons_zero, List.set_cons_succ])
    refine M.u_run rfl rfl rfl ?_
    apply Exists.intro
    refine ⟨fun w' hC hU hK => ?_, ?_⟩
    · have q3' := (hC.cell (lt_of_cell HQ3.out) HLO2.out).trans HQ3.out
      go_simp
      rfl
  (try simp only [Act.put, List.setIfInBounds_toArray, List.set_cons_zero, List.set_cons_succ])
  refine M.u_eff rfl rfl rfl (fun w' hC hU hK => ?_) (fun v8 hv8 => ?_)
  · unfold M.growAt
    go_simp
    refine M.grow_call ((ref_sync _ B2 r cs s nm HT.out.disk.is.1.left HT.out.good.1.pw (hU.2 rfl)).mono ?_)
    rintro e w'' ⟨rfl, h1, h2⟩
    have hsz := hC.size
    exact ⟨_, rfl, h2.mono (fun k _ hk => ⟨_, List.mem_cons_of_mem _ List.mem_cons_self, rfl, hk⟩), by rw [HC0.out], by rw [← HX0.out]; exact h1.more fun k _ hb => hb.elim .inl fun hb => .inr ⟨by omega, hb.2⟩⟩
  obtain ⟨_, _, rfl, _⟩ := hv8
  iterate 1
    (try simp only [Act.put, List.setIfInBounds_toArray, List.set_cons_zero, List.set_cons_succ])
    refine M.u_run rfl rfl rfl ?_
    apply Exists.intro
    refine ⟨fun w' hC hU hK => ?_, ?_⟩
    · go_simp
      rfl
  refine M.u_nil fun wz hC hK => ?_
  have hr : RdIs wz (moreB B2 W wz) r cs' { s with left := leftC s.left } := (hK (8, _) List.mem_cons_self).2
  have hd : DiskIs wz B1 d cs' { s with left := leftC s.left } := (hK (3, _) (List.mem_cons_of_mem _ List.mem_cons_self)).2
  have hC : Keep (fun k => B1 k ∨ B2 k) W wz := hC
  have hg : GoodC cs' := by rw [← HX0.out]; exact HT.out.good.sync s _
  have hsz := hC.size
  have h0 := HT.out.disk.ext.size
  have HTT := hid (show Twin w0 wz B1 (moreB B2 W wz) d r cs' { s with left := leftC s.left } from
    ⟨⟨hd, fun k hk => ⟨(HT.out.disk.low k hk).1, Nat.lt_of_lt_of_le (HT.out.disk.low k hk).2 hsz⟩, HT.out.disk.ext.trans hC fun k hk hb => by rcases hb with hb | hb; have := (HT.out.disk.low k hb).1; omega; have := (HT.out.low k hb).1; omega⟩,
      hr, fun k hk => by rcases hk with hk | hk; have := HT.out.low k hk; exact ⟨this.1, by omega⟩; exact ⟨by omega, hk.2⟩, hg, fun k h1 h2 => by rcases h2 with h2 | h2; exact HT.out.apart k h1 h2; have := (HT.out.disk.low k h1).2; omega⟩)
  clear hC hK hr hd hg hsz h0 q0 q3
  change wpList _ _ _ (_ :: []) _ _
  (try simp only [Act.put, List.setIfInBounds_toArray, List.set_cons_zero, List.set_cons_succ])
  go_wp2_with fail
  refine NoPanic.normal ?_
  go_wp2
  go_ret
  rw [HX0.out]
  exact ⟨rfl, _, _, HTT.out⟩
set_option maxRecDepth 20000 in
set_option maxHeartbeats 3200000 in
theorem does_drop (w0 w : World) (B1 B2 : BS) (d r : Nat) (cs : List DC) (s : DSt) (k : UInt8) (nm : ByteArray) (A : Option Addr) (n c : Nat) (z : Int) (hk : k.toNat % 12 = 7) (HZ : nm.size ≤ maxLen) (h : Twin w0 w B1 B2 d r cs s) :
    Calls Try.prog 20 #[.pointer (some ⟨d, 0, none⟩), .pointer (some ⟨r, 0, none⟩), .agg #[U8 k, .string nm, .slice A n c, .int .i64 z]] w (DoesIs w0 d r ((dropR cs s nm.data.toList).2, { s with left := leftC s.left })) := by
  obtain ⟨W, hW⟩ : ∃ W, w.alloc (.cells #[U8 k, .string nm, .slice A n c, .int .i64 z] 42) = W := ⟨_, rfl⟩
  have hE : Ext w W := by rw [← hW]; exact (Keep.refl _ _).alloc _
  have hb : Blk W w.heap.size 42 #[U8 k, .string nm, .slice A n c, .int .i64 z] := by rw [← hW]; exact Blk.new _ _ _
  have q0 := hb.cell 0
  have q3 := hb.cell 1
  simp only [List.getElem?_toArray, List.getElem?_cons_succ, List.getElem?_cons_zero] at q0 q3
  have HT := hid (h.more hE)
  have HQ3 := hid q3
  have HLO := hid (show ¬ B1 w.heap.size from fun hb => by have := (h.disk.low _ hb).2; omega)
  have HLO2 := hid (show ¬ (B1 w.heap.size ∨ B2 w.heap.size) from fun hb => by rcases hb with hb | hb; have := (h.disk.low _ hb).2; omega; have := (h.low _ hb).2; omega)
  have hkz : ((k.toNat : Int)).tmod 12 = 7 := by rw [Int.tmod_eq_emod_of_nonneg (by omega)]; omega
  have hkz2 : (k.toNat : Int) % 12 = 7 := by omega
  clear h hE hb
  obtain ⟨code, hcode⟩ : ∃ code, (dropR cs s nm.data.toList).1 = code := ⟨_, rfl⟩
  obtain ⟨cs', hx⟩ : ∃ cs', (dropR cs s nm.data.toList).2 = cs' := ⟨_, rfl⟩
  have hcd : code = 0 ∨ code = 130 ∨ code = 131 := by rw [← hcode]; unfold dropR; split <;> (try split) <;> simp
  have hwc : IntKind.i64.wrap code = code := by rcases hcd with h | h | h <;> rw [h] <;> rfl
  have HC0 := hid hcode
  have HX0 := hid hx
  clear hcd hcode hx
  go_enter Try.func20, Try.ntmps20
  go_wp2_with fail
  refine M.wp_region_once [0] [1, 2, 3, 4, 5, 6, 7, 8, 9] [10] (M.specOf [(3, fun v w' => v = .int .u16 code ∧ DiskIs w' B1 d cs' { s with left := leftC s.left }), (8, fun v w' => v = .int .i64 code ∧ RdIs w' (moreB B2 W w') r cs' { s with left := leftC s.left })])
    (fun w' => Keep (fun k => B1 k ∨ B2 k) W w') (fun i => Keep (M.effOf [(3, B1), (8, B2)] i)) (fun i w' => (i = 3 → DiskIs w' B1 d cs s) ∧ (i = 8 → RdIs w' B2 r cs s))
    ?_ (M.stableC_keep (fun i k h => by obtain ⟨x, hx, _, h⟩ := h; rcases List.mem_cons.1 hx with rfl | hx; exact .inl h; rcases List.mem_cons.1 hx with rfl | hx; exact .inr h; cases hx) _) ?_ (by kernel_rfl) (by kernel_rfl) (Keep.drew (Keep.refl _ _)) ?_ ?_
  · refine M.stable_cons (fun j hj v w w' h he => ⟨h.1, h.2.keep he fun k hb hf => ?_⟩) (M.stable_cons (fun j hj v w w' h he => ⟨h.1, (h.2.keep he fun k hb hf => ?_).more fun k _ hb => hb.elim .inl fun hb => .inr ⟨hb.1, Nat.lt_of_lt_of_le hb.2 he.size⟩⟩) M.stable_nil)
    · rcases eff_two hf with ⟨e, _⟩ | ⟨_, hk⟩
      · exact hj e
      · exact HT.out.apart k hb hk
    · rcases eff_two hf with ⟨_, hk⟩ | ⟨e, _⟩
      · rcases hb with hb | hb
        · exact HT.out.apart k hk hb
        · have := (HT.out.disk.low k hk).2; omega
      · exact hj e
  · intro i j hj w w' hu he
    refine ⟨fun e => (hu.1 e).keep he fun k hb hf => ?_, fun e => (hu.2 e).keep he fun k hb hf => ?_⟩
    · rcases eff_two hf with ⟨e2, _⟩ | ⟨_, hk⟩
      · exact hj (e2.trans e.symm)
      · exact HT.out.apart k hb hk
    · rcases eff_two hf with ⟨_, hk⟩ | ⟨e2, _⟩
      · exact HT.out.apart k hk hb
      · exact hj (e2.trans e.symm)
  · intro k _
    exact ⟨fun _ => HT.out.disk.is.keep ((Keep.refl (fun _ => False) W).drew) fun _ _ x => x, fun _ => HT.out.ref.keep ((Keep.refl (fun _ => False) W).drew) fun _ _ x => x⟩
  iterate 1
    (try simp only [Act.put, List.setIfInBounds_toArray, List.set_cons_zero, List.set_cons_succ])
    refine M.pure_run rfl rfl ?_
    apply Exists.intro
    refine ⟨fun w' => ?_, ?_⟩
    · go_simp
      rfl
  refine M.pure_nil ?_
  iterate 2
    (try simp only [Act.put, List.setIfInBounds_toArray, List.set_cons_zero, List.set_cons_succ])
    refine M.u_run rfl rfl rfl ?_
    apply Exists.intro
    refine ⟨fun w' hC hU hK => ?_, ?_⟩
    · have q3' := (hC.cell (lt_of_cell HQ3.out) HLO2.out).trans HQ3.out
      go_simp
      rfl
  (try simp only [Act.put, List.setIfInBounds_toArray, List.set_cons_zero, List.set_cons_succ])
  refine M.u_eff rfl rfl rfl (fun w' hC hU hK => ?_) (fun v3 hv3 => ?_)
  · unfold M.growAt
    go_simp
    refine M.grow_call ((disk_drop _ B1 d cs s nm (hU.1 rfl) HZ).mono ?_)
    rintro e w'' ⟨rfl, h1, h2⟩
    exact ⟨_, rfl, h2.mono (fun k _ hk => ⟨_, List.mem_cons_self, rfl, hk⟩), by rw [HC0.out], by rw [← HX0.out]; exact h1⟩
  obtain ⟨_, _, rfl, _⟩ := hv3
  iterate 4
    (try simp only [Act.put, List.setIfInBounds_toArray, List.set_cons_zero, List.set_cons_succ])
    refine M.u_run rfl rfl rfl ?_
    apply Exists.intro
    refine ⟨fun w' hC hU hK => ?_, ?_⟩
    · have q3' := (hC.cell (lt_of_cell HQ3.out) HLO2.out).trans HQ3.out
      go_simp
      rfl
  (try simp only [Act.put, List.setIfInBounds_toArray, List.set_cons_zero, List.set_cons_succ])
  refine M.u_eff rfl rfl rfl (fun w' hC hU hK => ?_) (fun v8 hv8 => ?_)
  · unfold M.growAt
    go_simp
    refine M.grow_call ((ref_drop _ B2 r cs s nm HT.out.disk.is.1.many HT.out.disk.is.1.left HT.out.good.1.pw (hU.2 rfl)).mono ?_)
    rintro e w'' ⟨rfl, h1, h2⟩
    have hsz := hC.size
    exact ⟨_, rfl, h2.mono (fun k _ hk => ⟨_, List.mem_cons_of_mem _ List.mem_cons_self, rfl, hk⟩), by rw [HC0.out], by rw [← HX0.out]; exact h1.more fun k _ hb => hb.elim .inl fun hb => .inr ⟨by omega, hb.2⟩⟩
  obtain ⟨_, _, rfl, _⟩ := hv8
  iterate 1
    (try simp only [Act.put, List.setIfInBounds_toArray, List.set_cons_zero, List.set_cons_succ])
    refine M.u_run rfl rfl rfl ?_
    apply Exists.intro
    refine ⟨fun w' hC hU hK => ?_, ?_⟩
    · go_simp
      rfl
  refine M.u_nil fun wz hC hK => ?_
  have hr : RdIs wz (moreB B2 W wz) r cs' { s with left := leftC s.left } := (hK (8, _) List.mem_cons_self).2
  have hd : DiskIs wz B1 d cs' { s with left := leftC s.left } := (hK (3, _) (List.mem_cons_of_mem _ List.mem_cons_self)).2
  have hC : Keep (fun k => B1 k ∨ B2 k) W wz := hC
  have hg : GoodC cs' := by rw [← HX0.out]; exact HT.out.good.drop s _
  have hsz := hC.size
  have h0 := HT.out.disk.ext.size
  have HTT := hid (show Twin w0 wz B1 (moreB B2 W wz) d r cs' { s with left := leftC s.left } from
    ⟨⟨hd, fun k hk => ⟨(HT.out.disk.low k hk).1, Nat.lt_of_lt_of_le (HT.out.disk.low k hk).2 hsz⟩, HT.out.disk.ext.trans hC fun k hk hb => by rcases hb with hb | hb; have := (HT.out.disk.low k hb).1; omega; have := (HT.out.low k hb).1; omega⟩,
      hr, fun k hk => by rcases hk with hk | hk; have := HT.out.low k hk; exact ⟨this.1, by omega⟩; exact ⟨by omega, hk.2⟩, hg, fun k h1 h2 => by rcases h2 with h2 | h2; exact HT.out.apart k h1 h2; have := (HT.out.disk.low k h1).2; omega⟩)
  clear hC hK hr hd hg hsz h0 q0 q3
  change wpList _ _ _ (_ :: []) _ _
  (try simp only [Act.put, List.setIfInBounds_toArray, List.set_cons_zero, List.set_cons_succ])
  go_wp2_with fail
  refine NoPanic.normal ?_
  go_wp2
  go_ret
  rw [HX0.out]
  exact ⟨rfl, _, _, HTT.out⟩
set_option maxRecDepth 20000 in
set_option maxHeartbeats 3200000 in
theorem does_cut (w0 w : World) (B1 B2 : BS) (d r : Nat) (cs : List DC) (s : DSt) (k : UInt8) (nm : ByteArray) (A : Option Addr) (n c : Nat) (z : Int) (hk : k.toNat % 12 = 6) (HZ : nm.size ≤ maxLen) (h : Twin w0 w B1 B2 d r cs s) :
    Calls Try.prog 20 #[.pointer (some ⟨d, 0, none⟩), .pointer (some ⟨r, 0, none⟩), .agg #[U8 k, .string nm, .slice A n c, .int .i64 z]] w (DoesIs w0 d r ((cutR cs s nm.data.toList z).2, { s with left := leftC s.left })) := by
  obtain ⟨W, hW⟩ : ∃ W, w.alloc (.cells #[U8 k, .string nm, .slice A n c, .int .i64 z] 42) = W := ⟨_, rfl⟩
  have hE : Ext w W := by rw [← hW]; exact (Keep.refl _ _).alloc _
  have hb : Blk W w.heap.size 42 #[U8 k, .string nm, .slice A n c, .int .i64 z] := by rw [← hW]; exact Blk.new _ _ _
  have q0 := hb.cell 0
  have q3 := hb.cell 1
  have q4 := hb.cell 3
  simp only [List.getElem?_toArray, List.getElem?_cons_succ, List.getElem?_cons_zero] at q0 q3 q4
  have HT := hid (h.more hE)
  have HQ3 := hid q3
  have HQ4 := hid q4
  have HLO := hid (show ¬ B1 w.heap.size from fun hb => by have := (h.disk.low _ hb).2; omega)
  have HLO2 := hid (show ¬ (B1 w.heap.size ∨ B2 w.heap.size) from fun hb => by rcases hb with hb | hb; have := (h.disk.low _ hb).2; omega; have := (h.low _ hb).2; omega)
  have hkz : ((k.toNat : Int)).tmod 12 = 6 := by rw [Int.tmod_eq_emod_of_nonneg (by omega)]; omega
  have hkz2 : (k.toNat : Int) % 12 = 6 := by omega
  clear h hE hb
  obtain ⟨code, hcode⟩ : ∃ code, (cutR cs s nm.data.toList z).1 = code := ⟨_, rfl⟩
  obtain ⟨cs', hx⟩ : ∃ cs', (cutR cs s nm.data.toList z).2 = cs' := ⟨_, rfl⟩
  have hcd : code = 0 ∨ code = 130 ∨ code = 131 ∨ code = 1 := by rw [← hcode]; unfold cutR; split; simp; split; simp; split <;> simp
  have hwc : IntKind.i64.wrap code = code := by rcases hcd with h | h | h | h <;> rw [h] <;> rfl
  have HC0 := hid hcode
  have HX0 := hid hx
  clear hcd hcode hx
  go_enter Try.func20, Try.ntmps20
  go_wp2_with fail
  refine M.wp_region_once [0] [1, 2, 3, 4, 5, 6, 7, 8, 9, 10, 11, 12, 13] [14] (M.specOf [(5, fun v w' => v = .int .u16 code ∧ DiskIs w' B1 d cs' { s with left := leftC s.left }), (12, fun v w' => v = .int .i64 code ∧ RdIs w' (moreB B2 W w') r cs' { s with left := leftC s.left })])
    (fun w' => Keep (fun k => B1 k ∨ B2 k) W w') (fun i => Keep (M.effOf [(5, B1), (12, B2)] i)) (fun i w' => (i = 5 → DiskIs w' B1 d cs s) ∧ (i = 12 → RdIs w' B2 r cs s))
    ?_ (M.stableC_keep (fun i k h => by obtain ⟨x, hx, _, h⟩ := h; rcases List.mem_cons.1 hx with rfl | hx; exact .inl h; rcases List.mem_cons.1 hx with rfl | hx; exact .inr h; cases hx) _) ?_ (by kernel_rfl) (by kernel_rfl) (Keep.drew (Keep.refl _ _)) ?_ ?_
  · refine M.stable_cons (fun j hj v w w' h he => ⟨h.1, h.2.keep he fun k hb hf => ?_⟩) (M.stable_cons (fun j hj v w w' h he => ⟨h.1, (h.2.keep he fun k hb hf => ?_).more fun k _ hb => hb.elim .inl fun hb => .inr ⟨hb.1, Nat.lt_of_lt_of_le hb.2 he.size⟩⟩) M.stable_nil)
    · rcases eff_two hf with ⟨e, _⟩ | ⟨_, hk⟩
      · exact hj e
      · exact HT.out.apart k hb hk
    · rcases eff_two hf with ⟨_, hk⟩ | ⟨e, _⟩
      · rcases hb with hb | hb
        · exact HT.out.apart k hk hb
        · have := (HT.out.disk.low k hk).2; omega
      · exact hj e
  · intro i j hj w w' hu he
    refine ⟨fun e => (hu.1 e).keep he fun k hb hf => ?_, fun e => (hu.2 e).keep he fun k hb hf => ?_⟩
    · rcases eff_two hf with ⟨e2, _⟩ | ⟨_, hk⟩
      · exact hj (e2.trans e.symm)
      · exact HT.out.apart k hb hk
    · rcases eff_two hf with ⟨_, hk⟩ | ⟨e2, _⟩
      · exact HT.out.apart k hk hb
      · exact hj (e2.trans e.symm)
  · intro k _
    exact ⟨fun _ => HT.out.disk.is.keep ((Keep.refl (fun _ => False) W).drew) fun _ _ x => x, fun _ => HT.out.ref.keep ((Keep.refl (fun _ => False) W).drew) fun _ _ x => x⟩
  iterate 1
    (try simp only [Act.put, List.setIfInBounds_toArray, List.set_cons_zero, List.set_cons_succ])
    refine M.pure_run rfl rfl ?_
    apply Exists.intro
    refine ⟨fun w' => ?_, ?_⟩
    · go_simp
      rfl
  refine M.pure_nil ?_
  iterate 4
    (try simp only [Act.put, List.setIfInBounds_toArray, List.set_cons_zero, List.set_cons_succ])
    refine M.u_run rfl rfl rfl ?_
    apply Exists.intro
    refine ⟨fun w' hC hU hK => ?_, ?_⟩
    · have q3' := (hC.cell (lt_of_cell HQ3.out) HLO2.out).trans HQ3.out
      have q4' := (hC.cell (lt_of_cell HQ4.out) HLO2.out).trans HQ4.out
      go_simp
      rfl
  (try simp only [Act.put, List.setIfInBounds_toArray, List.set_cons_zero, List.set_cons_succ])
  refine M.u_eff rfl rfl rfl (fun w' hC hU hK => ?_) (fun v5 hv5 => ?_)
  · unfold M.growAt
    go_simp
    refine M.grow_call ((disk_cut _ B1 d cs s nm z (hU.1 rfl) HZ).mono ?_)
    rintro e w'' ⟨rfl, h1, h2⟩
    exact ⟨_, rfl, h2.mono (fun k _ hk => ⟨_, List.mem_cons_self, rfl, hk⟩), by rw [HC0.out], by rw [← HX0.out]; exact h1⟩
  obtain ⟨_, _, rfl, _⟩ := hv5
  iterate 6
    (try simp only [Act.put, List.setIfInBounds_toArray, List.set_cons_zero, List.set_cons_succ])
    refine M.u_run rfl rfl rfl ?_
    apply Exists.intro
    refine ⟨fun w' hC hU hK => ?_, ?_⟩
    · have q3' := (hC.cell (lt_of_cell HQ3.out) HLO2.out).trans HQ3.out
      have q4' := (hC.cell (lt_of_cell HQ4.out) HLO2.out).trans HQ4.out
      go_simp
      rfl
  (try simp only [Act.put, List.setIfInBounds_toArray, List.set_cons_zero, List.set_cons_succ])
  refine M.u_eff rfl rfl rfl (fun w' hC hU hK => ?_) (fun v12 hv12 => ?_)
  · unfold M.growAt
    go_simp
    refine M.grow_call ((ref_cut _ B2 r cs s nm z HT.out.disk.is.1.left HT.out.good.1.pw (hU.2 rfl)).mono ?_)
    rintro e w'' ⟨rfl, h1, h2⟩
    have hsz := hC.size
    exact ⟨_, rfl, h2.mono (fun k _ hk => ⟨_, List.mem_cons_of_mem _ List.mem_cons_self, rfl, hk⟩), by rw [HC0.out], by rw [← HX0.out]; exact h1.more fun k _ hb => hb.elim .inl fun hb => .inr ⟨by omega, hb.2⟩⟩
  obtain ⟨_, _, rfl, _⟩ := hv12
  iterate 1
    (try simp only [Act.put, List.setIfInBounds_toArray, List.set_cons_zero, List.set_cons_succ])
    refine M.u_run rfl rfl rfl ?_
    apply Exists.intro
    refine ⟨fun w' hC hU hK => ?_, ?_⟩
    · go_simp
      rfl
  refine M.u_nil fun wz hC hK => ?_
  have hr : RdIs wz (moreB B2 W wz) r cs' { s with left := leftC s.left } := (hK (12, _) List.mem_cons_self).2
  have hd : DiskIs wz B1 d cs' { s with left := leftC s.left } := (hK (5, _) (List.mem_cons_of_mem _ List.mem_cons_self)).2
  have hC : Keep (fun k => B1 k ∨ B2 k) W wz := hC
  have hg : GoodC cs' := by rw [← HX0.out]; exact HT.out.good.cut s _ _
  have hsz := hC.size
  have h0 := HT.out.disk.ext.size
  have HTT := hid (show Twin w0 wz B1 (moreB B2 W wz) d r cs' { s with left := leftC s.left } from
    ⟨⟨hd, fun k hk => ⟨(HT.out.disk.low k hk).1, Nat.lt_of_lt_of_le (HT.out.disk.low k hk).2 hsz⟩, HT.out.disk.ext.trans hC fun k hk hb => by rcases hb with hb | hb; have := (HT.out.disk.low k hb).1; omega; have := (HT.out.low k hb).1; omega⟩,
      hr, fun k hk => by rcases hk with hk | hk; have := HT.out.low k hk; exact ⟨this.1, by omega⟩; exact ⟨by omega, hk.2⟩, hg, fun k h1 h2 => by rcases h2 with h2 | h2; exact HT.out.apart k h1 h2; have := (HT.out.disk.low k h1).2; omega⟩)
  clear hC hK hr hd hg hsz h0 q0 q3 q4
  change wpList _ _ _ (_ :: []) _ _
  (try simp only [Act.put, List.setIfInBounds_toArray, List.set_cons_zero, List.set_cons_succ])
  go_wp2_with fail
  refine NoPanic.normal ?_
  go_wp2
  go_ret
  rw [HX0.out]
  exact ⟨rfl, _, _, HTT.out⟩
end Go.Proofs.Ytikophoopapngaa

/- The law's does: Append. -/
namespace Go.Proofs.Ytikophoopapngaa
open Go.RowKit
set_option linter.unusedVariables false

def P1 (W : World) (B1 : BS) (d : Nat) (x : List DC) (s : DSt) (B : BS) (w : World) : Prop := DiskIs w B d x s ∧ ∀ k, B k → (B1 k ∨ W.heap.size ≤ k) ∧ k < w.heap.size
def P2 (W : World) (B1 B2 : BS) (d r : Nat) (x : List DC) (s : DSt) (w : World) : Prop := ∃ C1 C2, P1 W B1 d x s C1 w ∧ RdIs w C2 r x s ∧ (∀ k, C2 k → (B2 k ∨ W.heap.size ≤ k) ∧ k < w.heap.size) ∧ ∀ k, C1 k → ¬ C2 k
section
variable {W w w' : World} {B1 B2 : BS} {d r : Nat} {x : List DC} {s : DSt}
/-- The disk's call, behind which the reference is as it was. -/
theorem P2.one {cs : List DC} {s0 : DSt} (h : P2 W B1 B2 d r x s w) (hW : W.heap.size ≤ w.heap.size) (hlt : ∀ k, B1 k → k < W.heap.size) (hap : ∀ k, B1 k → ¬ B2 k) (hk : Keep B1 w w') (hd : DiskIs w' (moreB B1 w w') d x s) : P2 W B1 B2 d r x s w' := by
  obtain ⟨C1, C2, _, hr, hb, _⟩ := h
  have hs := hk.size
  have hn : ∀ k, C2 k → ¬ B1 k := fun k h2 h1 => by
    rcases (hb k h2).1 with h | h
    · exact hap k h1 h
    · have := hlt k h1; omega
  refine ⟨moreB B1 w w', C2, ⟨hd, fun k h => ?_⟩, hr.keep hk hn, fun k h => ⟨(hb k h).1, by have := (hb k h).2; omega⟩, fun k h1 h2 => ?_⟩
  · rcases h with h | h
    · exact ⟨.inl h, by have := hlt k h; omega⟩
    · exact ⟨.inr (by omega), h.2⟩
  · rcases h1 with h1 | h1
    · exact hn k h2 h1
    · have := (hb k h2).2; omega
/-- The reference's call, behind the disk's. -/
theorem P1.two {C1 : BS} (h : P1 W B1 d x s C1 w) (hW : W.heap.size ≤ w.heap.size) (hlt : ∀ k, B2 k → k < W.heap.size) (hap : ∀ k, B1 k → ¬ B2 k) (hk : Keep B2 w w') (hr : RdIs w' (moreB B2 w w') r x s) : P2 W B1 B2 d r x s w' := by
  obtain ⟨hd, hb⟩ := h
  have hs := hk.size
  have hn : ∀ k, C1 k → ¬ B2 k := fun k h1 h2 => by
    rcases (hb k h1).1 with h | h
    · exact hap k h h2
    · have := hlt k h2; omega
  refine ⟨C1, moreB B2 w w', ⟨hd.keep hk hn, fun k h => ⟨(hb k h).1, by have := (hb k h).2; omega⟩⟩, hr, fun k h => ?_, fun k h1 h2 => ?_⟩
  · rcases h with h | h
    · exact ⟨.inl h, by have := hlt k h; omega⟩
    · exact ⟨.inr (by omega), h.2⟩
  · rcases h2 with h2 | h2
    · exact hn k h1 h2
    · have := (hb k h1).2; omega
end
end Go.Proofs.Ytikophoopapngaa

/- The law's does: Append. -/
namespace Go.Proofs.Ytikophoopapngaa
open Go.RowKit
set_option linter.unusedVariables false

theorem P1.keep {W w w' : World} {B1 F : BS} {d : Nat} {x : List DC} {s : DSt} {C1 : BS} (h : P1 W B1 d x s C1 w) (hk : Keep F w w') (hF : ∀ k, F k → k < W.heap.size ∧ ¬ B1 k) : P1 W B1 d x s C1 w' :=
  ⟨h.1.keep hk fun k hb hf => by
    have := hF k hf
    rcases (h.2 k hb).1 with h | h
    · exact this.2 h
    · omega, fun k hb => ⟨(h.2 k hb).1, Nat.lt_of_lt_of_le (h.2 k hb).2 hk.size⟩⟩
theorem P2.keep {W w w' : World} {B1 B2 F : BS} {d r : Nat} {x : List DC} {s : DSt} (h : P2 W B1 B2 d r x s w) (hk : Keep F w w') (hF : ∀ k, ¬ F k) : P2 W B1 B2 d r x s w' := by
  obtain ⟨C1, C2, h1, h2, h3, h4⟩ := h
  exact ⟨C1, C2, h1.keep hk fun k hf => absurd hf (hF k), h2.keep hk fun k _ hf => hF k hf, fun k hb => ⟨(h3 k hb).1, Nat.lt_of_lt_of_le (h3 k hb).2 hk.size⟩, h4⟩
set_option maxRecDepth 20000 in
set_option maxHeartbeats 3200000 in
theorem does_append (w0 w : World) (B1 B2 : BS) (d r : Nat) (cs : List DC) (s : DSt) (k : UInt8) (nm : ByteArray) (A : Option Addr) (n c : Nat) (z : Int) (b : List UInt8) (S2 : BS) (hbs : BytesS w S2 (.slice A n c) b) (hS2 : ∀ k, S2 k → k < w0.heap.size) (q : Nat) (hq : q < 4) (hk : k.toNat % 12 = q) (HZ : nm.size ≤ maxLen) (h : Twin w0 w B1 B2 d r cs s) :
    Calls Try.prog 20 #[.pointer (some ⟨d, 0, none⟩), .pointer (some ⟨r, 0, none⟩), .agg #[U8 k, .string nm, .slice A n c, .int .i64 z]] w (DoesIs w0 d r ((appR cs s nm.data.toList b).2, { s with left := leftC s.left })) := by
  obtain ⟨W, hW⟩ : ∃ W, w.alloc (.cells #[U8 k, .string nm, .slice A n c, .int .i64 z] 42) = W := ⟨_, rfl⟩
  have hE : Ext w W := by rw [← hW]; exact (Keep.refl _ _).alloc _
  have hb : Blk W w.heap.size 42 #[U8 k, .string nm, .slice A n c, .int .i64 z] := by rw [← hW]; exact Blk.new _ _ _
  have q0 := hb.cell 0
  have q3 := hb.cell 1
  have q4 := hb.cell 2
  simp only [List.getElem?_toArray, List.getElem?_cons_succ, List.getElem?_cons_zero] at q0 q3 q4
  have HT := hid (h.more hE)
  have HQ3 := hid q3
  have HQ4 := hid q4
  have HBS := hid (hbs.ext EU8.ok hE)
  have HS2 := hid hS2
  have HLO := hid (show ¬ B1 w.heap.size from fun hb => by have := (h.disk.low _ hb).2; omega)
  have HLO2 := hid (show ¬ (B1 w.heap.size ∨ B2 w.heap.size) from fun hb => by rcases hb with hb | hb; have := (h.disk.low _ hb).2; omega; have := (h.low _ hb).2; omega)
  have hkz : ((k.toNat : Int)).tmod 12 = (q : Int) := by rw [Int.tmod_eq_emod_of_nonneg (by omega)]; omega
  have hkz2 : (k.toNat : Int) % 12 = (q : Int) := by omega
  have g4 : ¬ (q : Int) = 4 := by omega
  have g5 : ¬ (q : Int) = 5 := by omega
  have g6 : ¬ (q : Int) = 6 := by omega
  have g7 : ¬ (q : Int) = 7 := by omega
  have g8 : ¬ (q : Int) = 8 := by omega
  have g9 : ¬ (q : Int) = 9 := by omega
  have g10 : ¬ (q : Int) = 10 := by omega
  have g11 : ¬ (q : Int) = 11 := by omega
  clear h hE hb hbs hS2 hk hq
  obtain ⟨code, hcode⟩ : ∃ code, (appR cs s nm.data.toList b).1 = code := ⟨_, rfl⟩
  obtain ⟨cs', hx⟩ : ∃ cs', (appR cs s nm.data.toList b).2 = cs' := ⟨_, rfl⟩
  have hcd : code = 0 ∨ code = 130 := by rw [← hcode]; unfold appR; split <;> (try split) <;> (try split) <;> simp
  have hwc : IntKind.i64.wrap code = code := by rcases hcd with h | h <;> rw [h] <;> rfl
  have HC0 := hid hcode
  have HX0 := hid hx
  clear hcd hcode hx
  go_enter Try.func20, Try.ntmps20
  go_wp2_with fail
  have HRD := hid (show ∀ w', Keep (fun k => B1 k ∨ B2 k) W w' → BytesS w' S2 (.slice A n c) b from fun w' hC => HBS.out.keep EU8.ok hC fun k hk hb => by
    have h2 := HS2.out k hk
    rcases hb with hb | hb
    · have := (HT.out.disk.low k hb).1; omega
    · have := (HT.out.low k hb).1; omega)
  have hwz : W.heap.size = W.heap.size := rfl
  have HLT1 := hid (show ∀ k, B1 k → k < W.heap.size from fun k hk => (HT.out.disk.low k hk).2)
  have HLT2 := hid (show ∀ k, B2 k → k < W.heap.size from fun k hk => (HT.out.low k hk).2)
  have HAP := hid (show ∀ k, B1 k → ¬ B2 k from HT.out.apart)
  clear hwz
  obtain ⟨S', hS'⟩ : ∃ S' : DSt, { s with left := leftC s.left } = S' := ⟨_, rfl⟩
  have HS' := hid hS'
  rw [hS']
  clear hS'
  refine M.wp_region_once [0] [1, 2, 3, 4, 5, 6, 7, 8, 9, 10, 11, 12, 13] [14] (M.specOf [(5, fun v w' => v = .int .u16 code ∧ ∃ C1, P1 W B1 d cs' S' C1 w'), (12, fun v w' => v = .int .i64 code ∧ P2 W B1 B2 d r cs' S' w' ∧ W.heap.size ≤ w'.heap.size)])
    (fun w' => Keep (fun k => B1 k ∨ B2 k) W w') (fun i w1 w' => Keep (M.effOf [(5, B1), (12, B2)] i) w1 w' ∧ (i = 5 → W.heap.size ≤ w1.heap.size → P2 W B1 B2 d r cs' S' w1 → P2 W B1 B2 d r cs' S' w')) (fun i w' => (i = 5 → DiskIs w' B1 d cs s) ∧ (i = 12 → RdIs w' B2 r cs s))
    ?_ (fun i w1 w' hk he => M.stableC_keep (Fs := M.effOf [(5, B1), (12, B2)]) (fun i k h => by obtain ⟨x, hx, _, h⟩ := h; rcases List.mem_cons.1 hx with rfl | hx; exact .inl h; rcases List.mem_cons.1 hx with rfl | hx; exact .inr h; cases hx) _ i w1 w' hk he.1) ?_ (by kernel_rfl) (by kernel_rfl) (Keep.drew (Keep.refl _ _)) ?_ ?_
  · refine M.stable_cons (fun j hj v w w' h he => ⟨h.1, ?_⟩) (M.stable_cons (fun j hj v w w' h he => ⟨h.1, ?_, Nat.le_trans h.2.2 he.1.size⟩) M.stable_nil)
    · obtain ⟨_, C1, h⟩ := h
      refine ⟨C1, h.keep he.1 fun k hf => ?_⟩
      rcases eff_two hf with ⟨e, _⟩ | ⟨_, hk⟩
      · exact absurd e hj
      · exact ⟨HLT2.out k hk, fun h1 => HAP.out k h1 hk⟩
    · by_cases e5 : j = 5
      · exact he.2 e5 h.2.2 h.2.1
      · refine h.2.1.keep he.1 fun k hf => ?_
        rcases eff_two hf with ⟨e, _⟩ | ⟨e, _⟩
        · exact e5 e
        · exact hj e
  · intro i j hj w w' hu he
    refine ⟨fun e => (hu.1 e).keep he.1 fun k hb hf => ?_, fun e => (hu.2 e).keep he.1 fun k hb hf => ?_⟩
    · rcases eff_two hf with ⟨e2, _⟩ | ⟨_, hk⟩
      · exact hj (e2.trans e.symm)
      · exact HAP.out k hb hk
    · rcases eff_two hf with ⟨_, hk⟩ | ⟨e2, _⟩
      · exact HAP.out k hk hb
      · exact hj (e2.trans e.symm)
  · intro k _
    exact ⟨fun _ => HT.out.disk.is.keep ((Keep.refl (fun _ => False) W).drew) fun _ _ x => x, fun _ => HT.out.ref.keep ((Keep.refl (fun _ => False) W).drew) fun _ _ x => x⟩
  iterate 1
    (try simp only [Act.put, List.setIfInBounds_toArray, List.set_cons_zero, List.set_cons_succ])
    refine M.pure_run rfl rfl ?_
    apply Exists.intro
    refine ⟨fun w' => ?_, ?_⟩
    · go_simp
      rfl
  refine M.pure_nil ?_
  iterate 4
    (try simp only [Act.put, List.setIfInBounds_toArray, List.set_cons_zero, List.set_cons_succ])
    refine M.u_run rfl rfl rfl ?_
    apply Exists.intro
    refine ⟨fun w' hC hU hK => ?_, ?_⟩
    · have q3' := (hC.cell (lt_of_cell HQ3.out) HLO2.out).trans HQ3.out
      have q4' := (hC.cell (lt_of_cell HQ4.out) HLO2.out).trans HQ4.out
      go_simp
      rfl
  (try simp only [Act.put, List.setIfInBounds_toArray, List.set_cons_zero, List.set_cons_succ])
  refine M.u_eff rfl rfl rfl (fun w' hC hU hK => ?_) (fun v5 hv5 => ?_)
  · unfold M.growAt
    go_simp
    refine M.grow_call ((disk_append _ B1 d cs s nm _ b S2 (hU.1 rfl) (HRD.out _ hC) HZ).mono ?_)
    rintro e w'' ⟨rfl, h1, h2⟩
    have hsz := hC.size
    have hd : DiskIs w'' (moreB B1 w' w'') d cs' S' := by rw [← HX0.out, ← HS'.out]; exact h1
    have hb : ∀ k, moreB B1 w' w'' k → (B1 k ∨ W.heap.size ≤ k) ∧ k < w''.heap.size := fun k hk => by
      have := h2.size
      rcases hk with hk | hk
      · exact ⟨.inl hk, by have := HLT1.out k hk; omega⟩
      · exact ⟨.inr (by omega), hk.2⟩
    exact ⟨_, rfl, ⟨h2.mono (fun k _ hk => ⟨_, List.mem_cons_self, rfl, hk⟩), fun hs hp => P2.one (cs := cs') (s0 := S') hp hs HLT1.out HAP.out h2 hd⟩, by rw [HC0.out], _, hd, hb⟩
  obtain ⟨_, _, rfl, _⟩ := hv5
  iterate 6
    (try simp only [Act.put, List.setIfInBounds_toArray, List.set_cons_zero, List.set_cons_succ])
    refine M.u_run rfl rfl rfl ?_
    apply Exists.intro
    refine ⟨fun w' hC hU hK => ?_, ?_⟩
    · have q3' := (hC.cell (lt_of_cell HQ3.out) HLO2.out).trans HQ3.out
      have q4' := (hC.cell (lt_of_cell HQ4.out) HLO2.out).trans HQ4.out
      go_simp
      rfl
  (try simp only [Act.put, List.setIfInBounds_toArray, List.set_cons_zero, List.set_cons_succ])
  refine M.u_eff rfl rfl rfl (fun w' hC hU hK => ?_) (fun v12 hv12 => ?_)
  · have h5 := hK.get (i := 5) List.mem_cons_self (by kernel_rfl)
    obtain ⟨_, C1, h5⟩ := h5
    unfold M.growAt
    go_simp
    refine M.grow_call ((ref_append _ B2 r cs s nm _ b S2 HT.out.disk.is.1 HT.out.good.1.pw (hU.2 rfl) (HRD.out _ hC) (fun k hk hb => by have := HS2.out k hk; have := (HT.out.low k hb).1; omega) HZ).mono ?_)
    rintro e w'' ⟨rfl, h1, h2⟩
    have hsz := hC.size
    exact ⟨_, rfl, h2.mono (fun k _ hk => ⟨_, List.mem_cons_of_mem _ List.mem_cons_self, rfl, hk⟩), by rw [HC0.out], h5.two hsz HLT2.out HAP.out h2 (by rw [← HX0.out, ← HS'.out]; exact h1), Nat.le_trans hsz h2.size⟩
  obtain ⟨_, _, rfl, _⟩ := hv12
  iterate 1
    (try simp only [Act.put, List.setIfInBounds_toArray, List.set_cons_zero, List.set_cons_succ])
    refine M.u_run rfl rfl rfl ?_
    apply Exists.intro
    refine ⟨fun w' hC hU hK => ?_, ?_⟩
    · go_simp
      rfl
  refine M.u_nil fun wz hC hK => ?_
  obtain ⟨C1, C2, hd, hr, hb2, hap⟩ : P2 W B1 B2 d r cs' S' wz := (hK (12, _) List.mem_cons_self).2.1
  have hC : Keep (fun k => B1 k ∨ B2 k) W wz := hC
  have hg : GoodC cs' := by rw [← HX0.out]; exact HT.out.good.app s _ _
  have hsz := hC.size
  have h0 := HT.out.disk.ext.size
  have HTT := hid (show Twin w0 wz C1 C2 d r cs' S' from
    ⟨⟨hd.1, fun k hk => ⟨by rcases (hd.2 k hk).1 with h | h; exact (HT.out.disk.low k h).1; omega, (hd.2 k hk).2⟩, HT.out.disk.ext.trans hC fun k hk hb => by rcases hb with hb | hb; have := (HT.out.disk.low k hb).1; omega; have := (HT.out.low k hb).1; omega⟩,
      hr, fun k hk => ⟨by rcases (hb2 k hk).1 with h | h; exact (HT.out.low k h).1; omega, (hb2 k hk).2⟩, hg, hap⟩)
  clear hC hK hr hd hg hsz h0 q0 q3 q4 hb2 hap
  change wpList _ _ _ (_ :: []) _ _
  (try simp only [Act.put, List.setIfInBounds_toArray, List.set_cons_zero, List.set_cons_succ])
  go_wp2_with fail
  refine NoPanic.normal ?_
  go_wp2
  go_ret
  rw [HX0.out, HS'.out]
  exact ⟨rfl, _, _, HTT.out⟩
end Go.Proofs.Ytikophoopapngaa
