/- Frames: 'four', 'number' of the program and of its reference, by contract. -/
import Derived.Test.YtpebphkceipfbaaOwnTwo
import Derived.Test.YtpebphkceipfbaaBytesClone
import Derived.Test.YtpebphkceipfbaaRefSum
import Derived.Test.YtpebphkceipfbaaOpenEl
import Derived.Test.YtpebphkceipfbaaFrameL
import Derived.Test.YtpebphkceipfbaaGrowTail
set_option linter.unusedSimpArgs false
set_option linter.unusedVariables false
namespace Go.Proofs.Ytpebphkceipfbaa
open Go.RowKit
set_option linter.unusedVariables false

theorem four_cells (n : Nat) (h : n < 4294967296) : [Value.int .u8 ((n : Int) / 16777216), .int .u8 ((n : Int) / 65536 % 256), .int .u8 ((n : Int) / 256 % 256), .int .u8 ((n : Int) % 256)] = (fourL n).map U8 := by
  simp [fourL]
  omega
/-- Four new cells as bytes. -/
theorem four_new {w : World} (n : Nat) (h : n < 4294967296) (f : Nat × Nat) :
    BytesS (w.alloc (.cells #[.int .u8 ((n : Int) / 16777216), .int .u8 ((n : Int) / 65536 % 256), .int .u8 ((n : Int) / 256 % 256), .int .u8 ((n : Int) % 256)] 5 f)) (fun k => w.heap.size ≤ k) (.slice (some ⟨w.heap.size, 0, none⟩) 4 4) (fourL n) := by
  have e := four_cells n h
  refine ⟨(fourL n).map U8, ?_, U8_cells _⟩
  rw [← e]
  exact (RowS.new (w := w) (t := 5) (sz := 1) (n := 4) (cs := [_, _, _, _]) rfl (by simp [maxLen]) f).more fun k _ e => by subst e; exact Nat.le_refl _

set_option maxHeartbeats 400000 in
theorem four_any (n : Nat) (hn : n < 4294967296) (w : World) :
    Calls Try.prog 18 #[.int .u32 (n : Int)] w fun e w' => ∃ v, e = .returned v ∧ BytesS w' (fun k => w.heap.size ≤ k) v (fourL n) ∧ Ext w w' := by
  go_enter Try.func18, Try.ntmps18
  go_wp2
  go_ret
  exact ⟨_, rfl, four_new n hn _, (Keep.refl _ _).alloc _⟩
set_option maxHeartbeats 400000 in
theorem ref_four (n : Nat) (hn : n < 4294967296) (w : World) :
    Calls Try.prog 21 #[.int .u32 (n : Int)] w fun e w' => ∃ v, e = .returned v ∧ BytesS w' (fun k => w.heap.size ≤ k) v (fourL n) ∧ Ext w w' := by
  go_enter Try.func21, Try.ntmps21
  go_wp2
  go_ret
  exact ⟨_, rfl, four_new n hn _, (Keep.refl _ _).alloc _⟩
set_option maxHeartbeats 400000 in
theorem number_any (v : Value) (l : List UInt8) (S : BS) (w : World) (hv : BytesS w S v l) (hl : 4 ≤ l.length) :
    Calls Try.prog 23 #[v] w fun e w' => e = .returned (.int .u32 (numL l : Nat)) ∧ w = w' := by
  obtain ⟨A, c, rfl, h1, h2⟩ := hv.shape
  unfold maxLen at h2
  go_enter Try.func23, Try.ntmps23
  go_wp2
  go_loop [3, 9] (fun s i => ∃ k : Nat, k ≤ 4 ∧ i = .int .i64 k ∧ s = .int .u32 (numK (l.take k) : Nat)) (fun _ i => 4 - (intOf i).toNat)
  case atStart => exact ⟨0, by omega, rfl, rfl⟩
  case round =>
    obtain ⟨k, hk, rfl, rfl⟩ := hrel
    by_cases hlt : k < 4
    · obtain ⟨b, off, rfl, hb, hsz, hc⟩ := bytesS_at hv (k := k) (by omega)
      have hlk := numK_lt k (l.take k) (by simp; omega)
      have hx := (l[k]'(by omega)).toNat_lt
      have hs := take_succ_get l k (by omega)
      generalize l[k]'(by omega) = x at *
      have HS := hid (show numK (l.take (k + 1)) = numK (l.take k) * 256 + x.toNat from by rw [hs, numK_snoc])
      clear hs
      have hm : numK (l.take k) < 16777216 := by
        have : (256 : Nat) ^ k ≤ 256 ^ 3 := Nat.pow_le_pow_right (by omega) (by omega)
        omega
      generalize numK (l.take k) = m at *
      clear hlk
      have ho : bits .or .u32 ((m : Int) * 256) (x.toNat : Int) = ((m * 256 + x.toNat : Nat) : Int) := by
        rw [show ((m : Int) * 256) = ((m * 256 : Nat) : Int) from by omega, u32_or_nat _ _ (by omega) (by omega)]
        congr 1
        have := Nat.shiftLeft_add_eq_or_of_lt (b := x.toNat) (i := 8) hx m
        rw [Nat.shiftLeft_eq] at this
        exact this.symm
      have HO := hid ho
      clear ho
      go_wp2
      exact ⟨⟨k + 1, by omega, by go_num, by rw [HO.out, HS.out]⟩, by simp [intOf]; omega⟩
    · obtain rfl : k = 4 := by omega
      go_wp2
      go_ret
      exact ⟨rfl, rfl⟩

theorem or_low (m x : Nat) (i : Nat) (hx : x < 2 ^ i) (hm : m * 2 ^ i + x < 4294967296) : bits .or .u32 ((m * 2 ^ i : Nat) : Int) (x : Int) = ((m * 2 ^ i + x : Nat) : Int) := by
  rw [u32_or_nat _ _ (by omega) (by omega)]
  have := Nat.shiftLeft_add_eq_or_of_lt (b := x) (i := i) hx m
  rw [Nat.shiftLeft_eq] at this
  rw [this]
theorem or_four (x0 x1 x2 x3 : Nat) (h0 : x0 < 256) (h1 : x1 < 256) (h2 : x2 < 256) (h3 : x3 < 256) :
    bits BinOp.or .u32 (bits BinOp.or .u32 (bits BinOp.or .u32 (IntKind.u32.wrap (IntKind.u32.wrap (x0 : Int) * 16777216)) (IntKind.u32.wrap (IntKind.u32.wrap (x1 : Int) * 65536))) (IntKind.u32.wrap (IntKind.u32.wrap (x2 : Int) * 256))) (IntKind.u32.wrap (x3 : Int)) = ((((x0 * 256 + x1) * 256 + x2) * 256 + x3 : Nat) : Int) := by
  rw [IntWalk.u32_in (x0 : Int) (by omega), IntWalk.u32_in (x1 : Int) (by omega), IntWalk.u32_in (x2 : Int) (by omega), IntWalk.u32_in (x3 : Int) (by omega), IntWalk.u32_in ((x0 : Int) * 16777216) (by omega), IntWalk.u32_in ((x1 : Int) * 65536) (by omega), IntWalk.u32_in ((x2 : Int) * 256) (by omega)]
  have e1 := or_low x0 (x1 * 65536) 24 (by omega) (by omega)
  have e2 := or_low (x0 * 256 + x1) (x2 * 256) 16 (by omega) (by omega)
  have e3 := or_low ((x0 * 256 + x1) * 256 + x2) x3 8 (by omega) (by omega)
  rw [show ((x0 : Int) * 16777216) = ((x0 * 2 ^ 24 : Nat) : Int) from by omega, show ((x1 : Int) * 65536) = ((x1 * 65536 : Nat) : Int) from by omega, e1,
    show ((x2 : Int) * 256) = ((x2 * 256 : Nat) : Int) from by omega, show x0 * 2 ^ 24 + x1 * 65536 = (x0 * 256 + x1) * 2 ^ 16 from by omega, e2, show (x0 * 256 + x1) * 2 ^ 16 + x2 * 256 = ((x0 * 256 + x1) * 256 + x2) * 2 ^ 8 from by omega, e3]
set_option maxHeartbeats 1600000 in
theorem ref_number (v : Value) (l : List UInt8) (S : BS) (w : World) (hv : BytesS w S v l) (hl : 4 ≤ l.length) :
    Calls Try.prog 25 #[v] w fun e w' => e = .returned (.int .u32 (numL l : Nat)) ∧ Ext w w' := by
  obtain ⟨A, c, rfl, h1, h2⟩ := hv.shape
  unfold maxLen at h2
  obtain ⟨b, off, rfl, hb, hsz, c0⟩ := bytesS_at hv (k := 0) (by omega)
  obtain ⟨_, _, e, _, _, c1⟩ := bytesS_at hv (k := 1) (by omega)
  cases e
  obtain ⟨_, _, e, _, _, c2⟩ := bytesS_at hv (k := 2) (by omega)
  cases e
  obtain ⟨_, _, e, _, _, c3⟩ := bytesS_at hv (k := 3) (by omega)
  cases e
  have hn := numL_eq l hl
  have h0 := (l[0]'(by omega)).toNat_lt
  have h1' := (l[1]'(by omega)).toNat_lt
  have h2' := (l[2]'(by omega)).toNat_lt
  have h3' := (l[3]'(by omega)).toNat_lt
  generalize l[0]'(by omega) = x0 at *
  generalize l[1]'(by omega) = x1 at *
  generalize l[2]'(by omega) = x2 at *
  generalize l[3]'(by omega) = x3 at *
  have HN := hid hn
  clear hn
  simp only [Nat.add_zero] at c0
  have g0 : 0 < l.length := by omega
  have g1 : (1 : Int) < l.length := by omega
  have g2 : (2 : Int) < l.length := by omega
  have g3 : (3 : Int) < l.length := by omega
  go_enter Try.func25, Try.ntmps25
  go_wp2_with fail
  refine wp_region_grow (specOf []) (fun w' => Ext w w') stable_nil (stableC_ext _) (by kernel_rfl) (by kernel_rfl) (Keep.drew (Keep.refl _ _)) ?_
  iterate 23
    (try simp only [Act.put, List.setIfInBounds_toArray, List.set_cons_zero, List.set_cons_succ])
    refine grow_run rfl rfl rfl ?_
    apply Exists.intro
    refine ⟨fun w' hC hK => ?_, ?_⟩
    · have c0 := (hC.cell (lt_of_cell c0) id).trans c0
      have c1 := (hC.cell (lt_of_cell c1) id).trans c1
      have c2 := (hC.cell (lt_of_cell c2) id).trans c2
      have c3 := (hC.cell (lt_of_cell c3) id).trans c3
      go_simp
      rfl
  refine grow_nil fun w6 hC _ => ?_
  go_wp2
  go_ret
  exact ⟨by rw [HN.out]; exact congrArg (fun z => Ending.returned (.int .u32 z)) (or_four _ _ _ _ h0 h1' h2' h3'), hC⟩
end Go.Proofs.Ytpebphkceipfbaa
