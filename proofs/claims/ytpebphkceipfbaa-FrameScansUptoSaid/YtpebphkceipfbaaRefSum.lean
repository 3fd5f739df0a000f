import Derived.Test.YtpebphkceipfbaaSum
set_option linter.unusedSimpArgs false
set_option linter.unusedVariables false
namespace Go.Proofs.Ytpebphkceipfbaa
open Go.RowKit
set_option linter.unusedVariables false

theorem xor_byte (c : BitVec 32) (x : UInt8) : bits .xor .u32 (c.toNat : Int) ((x.toNat : Int) % 4294967296) = ((crcBits 0 (c ^^^ x.toBitVec.zeroExtend 32)).toNat : Int) := by
  rw [show ((x.toNat : Int) % 4294967296) = (x.toNat : Int) from by have := x.toNat_lt; omega]
  rw [u32_xor_nat _ _ c.isLt (by have := x.toNat_lt; omega)]
  show _ = (((c ^^^ x.toBitVec.zeroExtend 32).toNat : Nat) : Int)
  rw [BitVec.toNat_xor, BitVec.zeroExtend, BitVec.toNat_setWidth, Nat.mod_eq_of_lt (by have := x.toBitVec.isLt; omega)]
  rfl
theorem xor_ones (c : BitVec 32) : bits .xor .u32 (c.toNat : Int) 4294967295 = (((~~~ c).toNat : Nat) : Int) := by
  have h := u32_xor_nat c.toNat 4294967295 c.isLt (by omega)
  rw [show ((4294967295 : Nat) : Int) = 4294967295 from rfl] at h
  rw [h]
  have : ~~~ c = c ^^^ BitVec.allOnes 32 := by rw [BitVec.not_def, BitVec.xor_comm]
  rw [this, BitVec.toNat_xor]
  rfl
theorem low_one (y : BitVec 32) : bits .and .u32 (y.toNat : Int) 1 = if y[0] then 1 else 0 := by
  have h1 := u32_and_nat y.toNat 1 y.isLt (by omega)
  rw [show ((1 : Nat) : Int) = 1 from rfl] at h1
  rw [h1]
  have : y.toNat &&& 1 = (y &&& 1#32).toNat := by rw [BitVec.toNat_and]; rfl
  rw [this, and_one]
  cases y[0] <;> rfl
theorem bit_odd (y : BitVec 32) (h : y[0] = true) : bits .xor .u32 ((y.toNat : Int) / 2) 3988292384 = ((crcBit y).toNat : Int) := by
  have h1 := u32_xor_nat (y.toNat / 2) 3988292384 (by have := y.isLt; omega) (by omega)
  rw [show ((3988292384 : Nat) : Int) = 3988292384 from rfl, show (((y.toNat / 2 : Nat)) : Int) = (y.toNat : Int) / 2 from by omega] at h1
  rw [h1, crcBit_eq, h]
  simp only [if_true, BitVec.toNat_xor, BitVec.toNat_ushiftRight, Nat.shiftRight_eq_div_pow]
  rfl
theorem bit_even (y : BitVec 32) (h : y[0] = false) : ((y.toNat : Int) / 2) = ((crcBit y).toNat : Int) := by
  rw [crcBit_even y h, BitVec.toNat_ushiftRight, Nat.shiftRight_eq_div_pow]
  omega

set_option maxHeartbeats 400000 in
/-- the reference. -/
theorem ref_sum (B : Nat) (v : Value) (ls : List (List UInt8)) (w : World) (hv : Bytess w B v ls) :
    Calls Try.prog 22 #[v] w fun e w' => e = .returned (U32 (sumOf ls.flatten)) ∧ w = w' := by
  obtain ⟨A, c, rfl, hlc, hcm, _⟩ := hv.open_
  unfold maxLen at hcm
  go_enter Try.func22, Try.ntmps22
  go_wp2
  go_loop [3, 4] (fun s i => ∃ k : Nat, k ≤ ls.length ∧ i = .int .i64 k ∧ s = U32 (crcOf (ls.take k).flatten)) (fun _ i => ls.length - (intOf i).toNat)
  case atStart => exact ⟨0, by omega, rfl, rfl⟩
  case round =>
    obtain ⟨k, hk, rfl, rfl⟩ := hrel
    by_cases hlt : k < ls.length
    · obtain ⟨b, off, u, rfl, hb, hcell, hu⟩ := hv.at_ hlt
      obtain ⟨A', c', rfl, hlc', hcm', _⟩ := hu.open_
      unfold maxLen at hcm'
      go_wp2
      go_loop [3, 5] (fun s j => ∃ m : Nat, m ≤ ls[k].length ∧ j = .int .i64 m ∧ s = U32 (crcOf ((ls.take k).flatten ++ ls[k].take m))) (fun _ j => ls[k].length - (intOf j).toNat)
      case atStart => exact ⟨0, by omega, rfl, by simp⟩
      case round =>
        obtain ⟨m, hm, rfl, rfl⟩ := hrel
        by_cases hlt2 : m < ls[k].length
        · obtain ⟨b2, off2, rfl, hb2, hcell2⟩ := hu.at_ hlt2
          have HS := hid (take_succ_get _ _ hlt2)
          generalize hx0 : ls[k][m] = x0 at *
          generalize hS0 : crcOf ((ls.take k).flatten ++ ls[k].take m) = S0
          have HS0 := hid hS0
          clear hS0 hx0
          go_wp2
          go_loop [3, 6] (fun s t => ∃ n : Nat, n ≤ 8 ∧ t = .int .i64 n ∧ s = U32 (crcBits n (S0 ^^^ x0.toBitVec.zeroExtend 32))) (fun _ t => 8 - (intOf t).toNat)
          case atStart => exact ⟨0, by omega, rfl, int32_congr (xor_byte S0 x0)⟩
          case round =>
            obtain ⟨n, hn, rfl, rfl⟩ := hrel
            by_cases hlt3 : n < 8
            · have hlow := low_one (crcBits n (S0 ^^^ x0.toBitVec.zeroExtend 32))
              have hodd := bit_odd (crcBits n (S0 ^^^ x0.toBitVec.zeroExtend 32))
              have heven := bit_even (crcBits n (S0 ^^^ x0.toBitVec.zeroExtend 32))
              have hst : ∀ y, crcBits n y = crcBits n y → crcBit (crcBits n y) = crcBits (n + 1) y := fun _ _ => rfl
              cases hc : (crcBits n (S0 ^^^ x0.toBitVec.zeroExtend 32))[0]
              · rw [hc] at hlow
                have h2 := heven hc
                rw [hst _ rfl] at h2
                clear hst heven hodd hc
                simp only [Bool.false_eq_true, if_false] at hlow
                have hcnd : (bits .and .u32 ((crcBits n (S0 ^^^ x0.toBitVec.zeroExtend 32)).toNat : Int) 1 == 1) = false := by rw [hlow]; rfl
                clear hlow
                have H2 := hid h2
                clear h2
                go_wp2
                go_round
                case rel => exact ⟨n + 1, by omega, by go_num, int32_congr H2.out⟩
                case measure => simp [intOf]; omega
              · rw [hc] at hlow
                have h2 := hodd hc
                rw [hst _ rfl] at h2
                clear hst heven hodd hc
                simp only [if_true] at hlow
                have hcnd : (bits .and .u32 ((crcBits n (S0 ^^^ x0.toBitVec.zeroExtend 32)).toNat : Int) 1 == 1) = true := by rw [hlow]; rfl
                clear hlow
                have H2 := hid h2
                clear h2
                go_wp2
                go_round
                case rel => exact ⟨n + 1, by omega, by go_num, int32_congr H2.out⟩
                case measure => simp [intOf]; omega
            · obtain rfl : n = 8 := by omega
              go_wp2
              go_round
              case rel => exact ⟨m + 1, by omega, by go_num, by rw [HS.out, ← List.append_assoc, crcOf_snoc, HS0.out]; rfl⟩
              case measure => simp [intOf]; omega
        · obtain rfl : m = ls[k].length := by omega
          go_wp2
          go_round
          case rel => exact ⟨k + 1, by omega, by go_num, by rw [take_succ_get _ _ hlt, List.flatten_append]; simp⟩
          case measure => simp [intOf]; omega
    · obtain rfl : k = ls.length := by omega
      rw [List.take_length]
      go_wp2
      go_ret
      exact ⟨ret_int (xor_ones _), rfl⟩
theorem ref_sum_ext (B : Nat) (v : Value) (ls : List (List UInt8)) (w : World) (hv : Bytess w B v ls) :
    Calls Try.prog 22 #[v] w fun e w' => e = .returned (U32 (sumOf ls.flatten)) ∧ Ext w w' :=
  (ref_sum B v ls w hv).mono fun _ _ ⟨h1, h2⟩ => ⟨h1, h2 ▸ Keep.refl _ _⟩
end Go.Proofs.Ytpebphkceipfbaa
