/- sum.Sum by contracts. -/
import Derived.Test.YtpebphkceipfbaaSync
import Derived.Test.YtpebphkceipfbaaCrc
set_option linter.unusedSimpArgs false
set_option linter.unusedVariables false
namespace Go.Proofs.Ytpebphkceipfbaa
open Go.RowKit
set_option linter.unusedVariables false

abbrev U32 (c : BitVec 32) : Value := .int .u32 (c.toNat : Int)
abbrev TAB : Nat := 69

/-- The table's block: done, the lock's two, 256 rows of which the first k are right, how many were made. -/
def Tab (w : World) (b : Nat) (d st : Int) (k : Nat) : Prop :=
  ∃ cs : Array Value, Blk w b TAB cs ∧ cs.size = 260 ∧ cs[0]? = some (.int .u32 d) ∧ cs[1]? = some (.int .i32 st) ∧
    (∀ i, i < 256 → ∃ x : BitVec 32, cs[3 + i]? = some (U32 x) ∧ (i < k → x = crcTab i)) ∧ ∃ m, cs[259]? = some (.int .u32 m)

section
variable {w w' : World} {b : Nat} {d st : Int} {k : Nat}
theorem Tab.lt (h : Tab w b d st k) : b < w.heap.size := by obtain ⟨cs, h, _⟩ := h; exact h.lt
theorem Tab.done (h : Tab w b d st k) : w.cell? ⟨b, 0, none⟩ = some (.int .u32 d) := by
  obtain ⟨cs, h, _, h0, _⟩ := h; rw [h.cell, h0]
theorem Tab.lock (h : Tab w b d st k) : w.cell? ⟨b, 1, none⟩ = some (.int .i32 st) := by
  obtain ⟨cs, h, _, _, h0, _⟩ := h; rw [h.cell, h0]
theorem Tab.row (h : Tab w b d st k) {i : Nat} (hi : i < 256) : ∃ x : BitVec 32, w.cell? ⟨b, 3 + i, none⟩ = some (U32 x) ∧ (i < k → x = crcTab i) := by
  obtain ⟨cs, h, _, _, _, h0, _⟩ := h
  obtain ⟨x, h1, h2⟩ := h0 i hi
  exact ⟨x, by rw [h.cell, h1], h2⟩
theorem Tab.made (h : Tab w b d st k) : ∃ m, w.cell? ⟨b, 259, none⟩ = some (.int .u32 m) := by
  obtain ⟨cs, h, _, _, _, _, m, h0⟩ := h; exact ⟨m, by rw [h.cell, h0]⟩
theorem Tab.free (h : Tab w b d st k) (i : Nat) : w.frozen? ⟨b, i, none⟩ = false := by obtain ⟨cs, h, _⟩ := h; exact h.frozen i
theorem Tab.drew (h : Tab w b d st k) : Tab w.drew b d st k := h
theorem Tab.set_done (h : Tab w b d st k) (e : Int) : Tab (w.setCell ⟨b, 0, none⟩ (.int .u32 e)) b e st k := by
  obtain ⟨cs, h, hs, h0, h1, h2, m, h3⟩ := h
  refine ⟨_, h.set_ 0 _, by simpa using hs, by simp [hs], by simpa using h1, fun i hi => ?_, m, by simpa using h3⟩
  obtain ⟨x, a1, a2⟩ := h2 i hi
  exact ⟨x, by rw [Array.getElem?_setIfInBounds_ne (by omega)]; exact a1, a2⟩
theorem Tab.set_lock (h : Tab w b d st k) (e : Int) : Tab (w.setCell ⟨b, 1, none⟩ (.int .i32 e)) b d e k := by
  obtain ⟨cs, h, hs, h0, h1, h2, m, h3⟩ := h
  refine ⟨_, h.set_ 1 _, by simpa using hs, by simpa using h0, by simp [hs], fun i hi => ?_, m, by simpa using h3⟩
  obtain ⟨x, a1, a2⟩ := h2 i hi
  exact ⟨x, by rw [Array.getElem?_setIfInBounds_ne (by omega)]; exact a1, a2⟩
theorem Tab.set_made (h : Tab w b d st k) (e : Int) : Tab (w.setCell ⟨b, 259, none⟩ (.int .u32 e)) b d st k := by
  obtain ⟨cs, h, hs, h0, h1, h2, m, h3⟩ := h
  refine ⟨_, h.set_ 259 _, by simpa using hs, by simpa using h0, by simpa using h1, fun i hi => ?_, e, by simp [hs]⟩
  obtain ⟨x, a1, a2⟩ := h2 i hi
  exact ⟨x, by rw [Array.getElem?_setIfInBounds_ne (by omega)]; exact a1, a2⟩
theorem Tab.set_row (h : Tab w b d st k) (hk : k < 256) : Tab (w.setCell ⟨b, 3 + k, none⟩ (U32 (crcTab k))) b d st (k + 1) := by
  obtain ⟨cs, h, hs, h0, h1, h2, m, h3⟩ := h
  refine ⟨_, h.set_ (3 + k) _, by simpa using hs, by rw [Array.getElem?_setIfInBounds_ne (by omega)]; exact h0, by rw [Array.getElem?_setIfInBounds_ne (by omega)]; exact h1, fun i hi => ?_, m,
    by rw [Array.getElem?_setIfInBounds_ne (by omega)]; exact h3⟩
  by_cases e : i = k
  · subst e
    exact ⟨_, Array.getElem?_setIfInBounds_self_of_lt (by omega), fun _ => rfl⟩
  · obtain ⟨x, a1, a2⟩ := h2 i hi
    exact ⟨x, by rw [Array.getElem?_setIfInBounds_ne (by omega)]; exact a1, fun _ => a2 (by omega)⟩
theorem Tab.keep {F : Nat → Prop} (h : Tab w b d st k) (hb : Keep F w w') (hg : ¬ F b) : Tab w' b d st k := by
  obtain ⟨cs, h, hr⟩ := h; exact ⟨cs, h.keep hb hg, hr⟩
end

theorem bit_form (x : BitVec 32) : bits .xor .u32 ((x.toNat : Int) / 2) (3988292384 * bits .and .u32 (x.toNat : Int) 1 % 4294967296) = ((crcBit x).toNat : Int) := by
  have h1 := u32_and_nat x.toNat 1 x.isLt (by omega)
  rw [show ((1 : Nat) : Int) = 1 from rfl] at h1
  rw [h1]
  have h2 : (3988292384 * ((x.toNat &&& 1 : Nat) : Int) % 4294967296) = ((3988292384 * (x.toNat &&& 1) % 4294967296 : Nat) : Int) := by omega
  rw [h2, show ((x.toNat : Int) / 2) = ((x.toNat / 2 : Nat) : Int) from by omega, u32_xor_nat _ _ (by have := x.isLt; omega) (by omega)]
  congr 1

theorem U32_congr {a b : BitVec 32} (h : a = b) : U32 a = U32 b := by rw [h]
theorem int32_congr {a b : Int} (h : a = b) : Value.int .u32 a = .int .u32 b := by rw [h]

set_option maxRecDepth 100000 in
set_option maxHeartbeats 400000 in
theorem fill_any (b : Nat) (w : World) (d st : Int) (hb : Tab w b d st 0) :
    Calls Try.prog 31 #[.pointer (some ⟨b, 0, none⟩)] w fun e w' => e = .returned (.tuple #[]) ∧ Tab w' b d st 256 ∧ Keep (· = b) w w' := by
  go_enter Try.func31, Try.ntmps31
  go_wp2
  go_loopw [5] (fun i w1 => ∃ k : Nat, k ≤ 256 ∧ i = .int .i64 k ∧ Tab w1 b d st k ∧ Keep (· = b) w w1) (fun i _ => 256 - (intOf i).toNat)
  case atStart => exact ⟨0, by omega, rfl, hb, Keep.refl _ _⟩
  case round =>
    obtain ⟨k, hk, rfl, hT, hK⟩ := hrel
    by_cases hlt : k < 256
    · obtain ⟨x0, hx0, _⟩ := hT.row hlt
      have hf0 := hT.free (3 + k)
      go_wp2
      go_loop [3, 10] (fun c j => ∃ (j' : Nat), c = U32 (crcBits j' (BitVec.ofNat 32 k)) ∧ j = .int .i64 j' ∧ j' ≤ 8) (fun _ j => 8 - (intOf j).toNat)
      case atStart => exact ⟨0, int32_congr (by simp [crcBits]; omega), rfl, by omega⟩
      case round =>
        obtain ⟨j', rfl, rfl, hj⟩ := hrel
        by_cases hlt2 : j' < 8
        · go_wp2
          go_round
          case rel => exact ⟨j' + 1, int32_congr (bit_form _), by go_num, by omega⟩
          case measure => simp [intOf]; omega
        · obtain rfl : j' = 8 := by omega
          have hT1 := hT.set_row hlt
          obtain ⟨m, hm⟩ := hT1.made
          have hfr := hT1.free 259
          go_wp2_with fail
          refine (u32_add _ m _ hm hfr).mono ?_
          rintro e w' ⟨m', rfl, rfl⟩
          have hT2 := hT1.set_made m'
          have hK2 : Keep (· = b) w ((wr.setCell ⟨b, 3 + k, none⟩ (U32 (crcTab k))).setCell ⟨b, 259, none⟩ (.int .u32 m')) := (hK.set1 _ _).set1 _ _
          go_wp2
          go_roundw
          case rel => exact ⟨k + 1, by omega, by go_num, hT2, hK2⟩
          case measure => simp [intOf]; omega
    · obtain rfl : k = 256 := by omega
      go_wp2
      go_end0
      exact ⟨rfl, hT, hK⟩

/-- The function that Do is handed. -/
abbrev FILL (b : Nat) : Value := .func (.func 31) #[.pointer (some ⟨b, 0, none⟩)] #[]

set_option maxRecDepth 100000 in
set_option maxHeartbeats 1600000 in
theorem slow_any (b : Nat) (w : World) (hT : Tab w b 0 0 0) :
    Calls Try.prog 33 #[.pointer (some ⟨b, 0, none⟩), FILL b] w fun e w' => e = .returned (.tuple #[]) ∧ Tab w' b 1 0 256 ∧ Keep (· = b) w w' := by
  have h1 := hT.lock
  have f1 := hT.free 1
  have hT1 := hT.set_lock 1
  have K1 : Keep (· = b) w (w.setCell ⟨b, 1, none⟩ (.int .i32 1)) := (Keep.refl _ _).set1 _ _
  have hnot : ∀ (x : Bool) (w : World), (Op.unary .not (.bool x)).run Try.prog w = .ok (.bool (!x)) w := fun _ _ => rfl
  go_enter_defers Try.func33, Try.ntmps33
  go_wp2_with (go_at_call 36; refine (lock_free ⟨b, 1, none⟩ _ h1 f1).mono ?_; rintro e w' ⟨rfl, rfl⟩)
  refine (bool_load _ 0 _ hT1.done).mono ?_
  rintro e w' ⟨rfl, rfl⟩
  go_wp2_with fail
  refine (fill_any b _ 0 1 hT1).mono ?_
  rintro e w2 ⟨rfl, hT2, K2⟩
  go_wp2
  have hT3 := hT2.drew.set_done 1
  have hT4 := hT3.set_lock 0
  have K3 : Keep (· = b) w (w2.drew.setCell ⟨b, 0, none⟩ (.int .u32 1)) := ((K1.trans K2 (fun _ _ e => e)).drew).set1 _ _
  have K4 : Keep (· = b) w ((w2.drew.setCell ⟨b, 0, none⟩ (.int .u32 1)).setCell ⟨b, 1, none⟩ (.int .i32 0)) := K3.set1 _ _
  refine leaves_cons (f := 38) (args := #[.pointer (some ⟨b, 0, none⟩), .bool true]) (by simp) (by simp [go_sem]) ?_
  refine (store_deferred ⟨b, 0, none⟩ (.int .u32 0) .returning _ hT2.done (hT2.free 0)).mono ?_
  rintro e u' w'' ⟨rfl, rfl, rfl⟩
  refine leaves_cons (f := 37) (args := #[.pointer (some ⟨b, 1, none⟩)]) (by simp [settle]) (by simp [go_sem]) ?_
  refine (unlock_deferred ⟨b, 1, none⟩ _ _ hT3.lock (hT3.free 1)).mono ?_
  rintro e u' w'' ⟨rfl, rfl, rfl⟩
  simp [Leaves, settle, results, Try.results33]
  exact ⟨hT4, K4⟩

/-- 'Do', not yet done. -/
theorem do_first (b : Nat) (w : World) (hT : Tab w b 0 0 0) :
    Calls Try.prog 30 #[.pointer (some ⟨b, 0, none⟩), FILL b] w fun e w' => e = .returned (.tuple #[]) ∧ Tab w' b 1 0 256 ∧ Keep (· = b) w w' := by
  have h0 := hT.done
  have hnot : ∀ (x : Bool) (w : World), (Op.unary .not (.bool x)).run Try.prog w = .ok (.bool (!x)) w := fun _ _ => rfl
  go_enter Try.func30, Try.ntmps30
  go_wp2_with (go_at_call 32; refine (bool_load _ 0 _ h0).mono ?_; rintro e w' ⟨rfl, rfl⟩)
  refine (slow_any b _ hT).mono ?_
  rintro e w' ⟨rfl, hT', hK⟩
  go_wp2
  go_end0
  exact ⟨rfl, hT', hK⟩

/-- 'Do', done already. -/
theorem do_done (b : Nat) (f : Value) (w : World) (hT : Tab w b 1 0 256) :
    Calls Try.prog 30 #[.pointer (some ⟨b, 0, none⟩), f] w fun e w' => e = .returned (.tuple #[]) ∧ w = w' := by
  have h0 := hT.done
  have hnot : ∀ (x : Bool) (w : World), (Op.unary .not (.bool x)).run Try.prog w = .ok (.bool (!x)) w := fun _ _ => rfl
  go_enter Try.func30, Try.ntmps30
  go_wp2_with (go_at_call 32; refine (bool_load _ 1 _ h0).mono ?_; rintro e w' ⟨rfl, rfl⟩)
  go_end0
  exact ⟨rfl, rfl⟩

/-- The table's block as it is made. -/
def zeroTab : Array Value := #[.int .u32 0, .int .i32 0, .int .u32 0] ++ Array.replicate 256 (.int .u32 0) ++ #[.int .u32 0]
theorem zero_tab (w : World) : (zeroValue TAB).run Try.prog w = .ok (.agg zeroTab) w := by kernel_rfl
theorem Tab.new (w : World) : Tab (w.alloc (.cells zeroTab TAB)) w.heap.size 0 0 0 := by
  refine ⟨_, Blk.new _ _ _, by simp [zeroTab], by simp [zeroTab], by simp [zeroTab], fun i hi => ⟨0#32, ?_, fun h => absurd h (by omega)⟩, 0, ?_⟩
  rotate_left
  · unfold zeroTab; rw [Array.getElem?_append_right (by simp)]; simp
  unfold zeroTab
  rw [Array.getElem?_append_left (by simp; omega), Array.getElem?_append_right (by simp)]
  simp [hi]

theorem ret_int {k : IntKind} {a b : Int} (h : a = b) : Ending.returned (.int k a) = .returned (.int k b) := by rw [h]
theorem step_index (c : BitVec 32) (x : UInt8) : ∃ i : Nat, i < 256 ∧ bits .xor .u8 ((c.toNat : Int) % 256) (x.toNat : Int) = (i : Int) ∧
    bits .xor .u32 ((crcTab i).toNat : Int) ((c.toNat : Int) / 256) = ((crcStep c x.toBitVec).toNat : Int) := by
  refine ⟨(c.setWidth 8 ^^^ x.toBitVec).toNat, BitVec.isLt _, ?_, ?_⟩
  · have h := u8_xor_nat (c.toNat % 256) x.toNat (by omega) x.toNat_lt
    rw [show (((c.toNat % 256 : Nat)) : Int) = (c.toNat : Int) % 256 from by omega] at h
    rw [h, BitVec.toNat_xor, BitVec.toNat_setWidth]
    rfl
  · rw [← crcStep_eq]
    have h := u32_xor_nat (crcTab (c.setWidth 8 ^^^ x.toBitVec).toNat).toNat (c.toNat / 256) (BitVec.isLt _) (by have := c.isLt; omega)
    rw [show (((c.toNat / 256 : Nat)) : Int) = (c.toNat : Int) / 256 from by omega] at h
    rw [h, BitVec.toNat_xor (crcTab _), BitVec.toNat_ushiftRight, Nat.shiftRight_eq_div_pow]

set_option maxRecDepth 100000 in
set_option maxHeartbeats 400000 in
theorem step_first (b : Nat) (c : BitVec 32) (x : UInt8) (w : World) (hT : Tab w b 0 0 0) :
    Calls Try.prog 28 #[.pointer (some ⟨b, 0, none⟩), U32 c, U8 x] w fun e w' => e = .returned (U32 (crcStep c x.toBitVec)) ∧ Tab w' b 1 0 256 ∧ Keep (· = b) w w' := by
  have hmf : ∀ (fn : Fn) (first cap : Array Value) (w : World), (Instr.makeFunc fn first cap).run Try.prog w = .ok (.func fn first cap) w := fun _ _ _ _ => rfl
  go_enter Try.func28, Try.ntmps28
  go_wp2_with fail
  refine (do_first b _ hT).mono ?_
  rintro e w' ⟨rfl, hT', hK⟩
  obtain ⟨i, hi, hx, hf⟩ := step_index c x
  obtain ⟨y, hy, hy'⟩ := hT'.row hi
  obtain rfl := hy' hi
  clear hy'
  go_wp2
  go_ret
  exact ⟨rfl, hT', hK⟩

set_option maxRecDepth 100000 in
set_option maxHeartbeats 400000 in
theorem step_done (b : Nat) (c : BitVec 32) (x : UInt8) (w : World) (hT : Tab w b 1 0 256) :
    Calls Try.prog 28 #[.pointer (some ⟨b, 0, none⟩), U32 c, U8 x] w fun e w' => e = .returned (U32 (crcStep c x.toBitVec)) ∧ w = w' := by
  have hmf : ∀ (fn : Fn) (first cap : Array Value) (w : World), (Instr.makeFunc fn first cap).run Try.prog w = .ok (.func fn first cap) w := fun _ _ _ _ => rfl
  go_enter Try.func28, Try.ntmps28
  go_wp2_with fail
  refine (do_done b _ _ hT).mono ?_
  rintro e w' ⟨rfl, rfl⟩
  obtain ⟨i, hi, hx, hf⟩ := step_index c x
  obtain ⟨y, hy, hy'⟩ := hT.row hi
  obtain rfl := hy' hi
  clear hy'
  go_wp2
  go_ret
  exact ⟨rfl, rfl⟩

/-- The table, made or not. -/
def TabOk (w : World) (b : Nat) : Prop := Tab w b 0 0 0 ∨ Tab w b 1 0 256
theorem step_any (b : Nat) (c : BitVec 32) (x : UInt8) (w : World) (hT : TabOk w b) :
    Calls Try.prog 28 #[.pointer (some ⟨b, 0, none⟩), U32 c, U8 x] w fun e w' => e = .returned (U32 (crcStep c x.toBitVec)) ∧ TabOk w' b ∧ Keep (· = b) w w' := by
  rcases hT with hT | hT
  · exact (step_first b c x w hT).mono fun e w' ⟨h1, h2, h3⟩ => ⟨h1, .inr h2, h3⟩
  · exact (step_done b c x w hT).mono fun e w' ⟨h1, h2⟩ => ⟨h1, .inr (h2 ▸ hT), h2 ▸ Keep.refl _ _⟩

theorem not_form (c : BitVec 32) : (bits .xor .u32 4294967295 (c.toNat : Int)) = (((~~~ c).toNat : Nat) : Int) := by
  have h := u32_xor_nat 4294967295 c.toNat (by omega) c.isLt
  rw [show ((4294967295 : Nat) : Int) = 4294967295 from rfl] at h
  rw [h]
  have : ~~~ c = BitVec.allOnes 32 ^^^ c := BitVec.not_def
  rw [this, BitVec.toNat_xor]
  rfl

end Go.Proofs.Ytpebphkceipfbaa
