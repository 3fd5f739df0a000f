/- slices.Concat of bytes, by contract. -/
import Derived.Test.YtikophoopapngaaOwnTwo
import Derived.Test.YtikophoopapngaaBytesClone
import Derived.Test.YtikophoopapngaaGrowAid
set_option linter.unusedSimpArgs false
set_option linter.unusedVariables false
namespace Go.Proofs.Ytikophoopapngaa
open Go.RowKit
set_option linter.unusedVariables false

/-- 'slices.Grow(nil, n)': a row of the call's own, empty. -/
theorem grow_nil_ok (n : Nat) (w : World) (hn : n ≤ 140737488355328) :
    Calls Try.prog 52 #[.slice none 0 0, .int .i64 (n : Int)] w fun e w' => ∃ v, e = .returned v ∧ Own EU8 w' w.heap.size 5 (fun _ => False) v [] ∧ Ext w w' := by
  rcases Nat.eq_zero_or_pos n with h0 | h0
  · subst h0
    go_enter Try.func52, Try.ntmps52
    go_wp2
    go_ret
    exact ⟨_, rfl, Own.nil _ _ _ _, Keep.refl _ _⟩
  · have hb : Try.t5.bytes = 1 := by kernel_rfl
    have hnc : Builtin.nextslicecap n 0 = n := by unfold Builtin.nextslicecap; rw [if_pos (by omega)]
    obtain ⟨c, hc⟩ : ∃ c, (Question.appendCap n 0 5).cut (w.tape w.drawn (Question.appendCap n 0 5)) = c := ⟨_, rfl⟩
    have hc1 : n ≤ c ∧ c ≤ 9223372036854775807 := by
      have he : c = n + w.tape w.drawn (Question.appendCap n 0 5) % (9223372036854775808 - n) := by rw [← hc]; rfl
      have : w.tape w.drawn (Question.appendCap n 0 5) % (9223372036854775808 - n) < 9223372036854775808 - n := Nat.mod_lt _ (by omega)
      omega
    obtain ⟨hc1, hc2⟩ := hc1
    have HC := hid hc2
    clear hc2
    go_enter Try.func52, Try.ntmps52
    go_wp2
    all_goals
      go_ret
      refine ⟨_, rfl, .inr ⟨w.heap.size, c, _, rfl, Nat.le_refl _, (Blk.new _ _ _), by simp, by simp only [maxLen]; exact HC.out, ?_, rfl⟩, ((Keep.refl _ _).alloc _).drew⟩
      simp [Builtin.zeroCells, EU8]
      omega

theorem sum_map_take (ls : List (List UInt8)) (k : Nat) (h : k < ls.length) : (ls.take (k + 1)).flatten.length = (ls.take k).flatten.length + ls[k].length := by
  rw [take_succ_get _ _ h, List.flatten_append, List.length_append]; simp
theorem flat_le (ls : List (List UInt8)) (k : Nat) : (ls.take k).flatten.length ≤ ls.flatten.length := by
  conv => rhs; rw [← List.take_append_drop k ls, List.flatten_append, List.length_append]
  omega

set_option maxHeartbeats 800000 in
/-- 'slices.Concat'. -/
theorem concat_any (v : Value) (ls : List (List UInt8)) (S : BS) (w : World) (hv : Sl EBytes w S v ls) (hl : ls.flatten.length ≤ 140737488355328) :
    Calls Try.prog 29 #[v] w fun e w' => ∃ v', e = .returned v' ∧ Own EU8 w' w.heap.size 5 (fun _ => False) v' ls.flatten ∧ Ext w w' := by
  obtain ⟨A, c, rfl, h1, h2⟩ := hv.shape
  unfold maxLen at h2
  have HV := hid hv
  clear hv
  go_enter Try.func29, Try.ntmps29
  go_wp2
  go_loop [3, 11] (fun s i => ∃ k : Nat, k ≤ ls.length ∧ i = .int .i64 k ∧ s = .int .i64 ((ls.take k).flatten.length : Nat)) (fun _ i => ls.length - (intOf i).toNat)
  case atStart => exact ⟨0, by omega, rfl, rfl⟩
  case round =>
    obtain ⟨k, hk, rfl, rfl⟩ := hrel
    by_cases hlt : k < ls.length
    · obtain ⟨b, off, c0, rfl, hb, hsz, ⟨u, rfl, hu⟩, hc⟩ := HV.out.at_ EBytes.ok hlt
      have hcell := hc 0 _ rfl
      obtain ⟨A', c', rfl, hlc', hcm'⟩ := hu.shape
      have hs := sum_map_take ls k hlt
      have hf := flat_le ls (k + 1)
      generalize (ls.take k).flatten.length = m at *
      have HS := hid hs
      have hm : m + ls[k].length ≤ 140737488355328 := by omega
      simp only [show EBytes.size = 1 from rfl, Nat.mul_one, Nat.add_zero] at hcell
      clear hs hf hc hu
      go_wp2
      exact ⟨⟨k + 1, by omega, by go_num, by rw [HS.out]; go_num⟩, by simp [intOf]; omega⟩
    · obtain rfl : k = ls.length := by omega
      rw [List.take_length]
      generalize hN : ls.flatten.length = N at *
      have HN := hid hN
      clear hN
      go_wp2_with fail
      refine (grow_nil_ok _ _ hl).mono ?_
      rintro e w1 ⟨v1, rfl, hown, hE⟩
      obtain ⟨A1, c1, rfl, _⟩ := hown.shape
      have HO := hid hown
      have HE := hid hE
      clear hown hE
      go_wp2_with fail
      go_loopw [6, 27] (fun x y wr => ∃ (j : Nat), j ≤ ls.length ∧ y = .int .i64 j ∧ Own EU8 wr w.heap.size 5 (fun _ => False) x (ls.take j).flatten ∧ Ext w wr) (fun _ y _ => ls.length - (intOf y).toNat)
      case atStart => exact ⟨0, by omega, rfl, HO.out, HE.out⟩
      case round =>
        obtain ⟨j, hj, rfl, hown, hE⟩ := hrel
        obtain ⟨A2, c2, rfl, hl2, hc2⟩ := hown.shape
        by_cases hlt : j < ls.length
        · obtain ⟨b, off, c0, rfl, hb, hsz, ⟨u, rfl, hu⟩, hc⟩ := (HV.out.more (S' := fun k => S k ∧ k < w.heap.size) EBytes.ok (fun k hk hs => ⟨hs, hk⟩) |>.ext EBytes.ok hE).at_ EBytes.ok hlt
          have hcell := hc 0 _ rfl
          obtain ⟨A', c', rfl, hlc', hcm'⟩ := hu.shape
          have hs := sum_map_take ls j hlt
          have hf := flat_le ls (j + 1)
          have hts := take_succ_get ls j hlt
          have HS := hid (show (ls.take (j + 1)).flatten = (ls.take j).flatten ++ ls[j] from by rw [hts, List.flatten_append]; simp)
          have hm : (ls.take j).flatten.length + ls[j].length ≤ 140737488355328 := by have := HN.out; omega
          simp only [show EBytes.size = 1 from rfl, Nat.mul_one, Nat.add_zero] at hcell
          have HO2 := hid hown
          have HE2 := hid hE
          have HU := hid hu
          clear hs hf hc hu hown hE hts
          generalize hm' : (ls.take j).flatten = m at *
          clear hm'
          go_wp2_with (at_builtin; refine wpList_own_append _ rfl (.tmp 31) (.tmp 32) EU8.ok ty_u8 rfl rfl rfl HO2.out HU.out ?c1 ?c2 ?c3 ?c4 ?_)
          case c1 => intro g hg; exact ⟨id, fun h => by have := (HO2.out.lt hg).1; have := h.2; omega⟩
          case c2 => rw [Nat.mul_one]; exact hm
          case c3 => simp only [maxLen]; omega
          case c4 => exact HE2.out.size
          intro v' w' hown' hk hb
          obtain ⟨A3, c3, rfl, hl3, hc3⟩ := hown'.shape
          have hk2 : Ext w w' := HE2.out.trans hk (fun k hlt e => by have := (HO2.out.lt e).1; omega)
          have HO3 := hid (own_u8 (S' := fun _ => False) hown')
          have HE3 := hid hk2
          rw [← HS.out] at HO3
          have hlen : (m ++ ls[j]).length = (ls.take (j + 1)).flatten.length := by rw [HS.out]
          rw [hlen]
          clear hown' hk hk2 hb hcell HO2 HU
          go_wp2
          exact ⟨⟨j + 1, by omega, by go_num, HO3.out, HE3.out⟩, by simp [intOf]; omega⟩
        · obtain rfl : j = ls.length := by omega
          simp only [List.take_length] at hown ⊢
          have HO3 := hid hown
          have HE3 := hid hE
          clear hown hE
          go_wp2
          go_ret
          exact ⟨_, rfl, HO3.out, HE3.out⟩
end Go.Proofs.Ytikophoopapngaa
