/- Bytes of which one is another one have another sum: the walk. -/
import Derived.Test.YtmmkoenkiobclaaKnown
import Derived.Test.YtmmkoenkiobclaaLawAid
import Derived.Test.YtmmkoenkiobclaaAppend
import Derived.Test.YtmmkoenkiobclaaOpen
namespace Go.Proofs.Ytmmkoenkiobclaa
open Go.RowKit
set_option linter.unusedVariables false

set_option maxHeartbeats 800000 in
theorem bytes_walk (va : Value) (l : List UInt8) (at_ : Int) (x : Int) (w : World) (ha : Bytes w w.heap.size va l) (hi : (Lit.int .i64 at_).wf = true) (hj : (Lit.int .u8 x).wf = true) :
    Calls Try.prog 6 #[va, .int .i64 at_, .int .u8 x] w fun e w' => e = .returned (.bool true) ∧ Below w.heap.size w w' := by
  obtain ⟨x0, rfl⟩ := u8_of_wf hj
  obtain ⟨A, c, rfl, hlc, hcm, _⟩ := ha.open_
  unfold maxLen at hcm
  by_cases h1 : l.length ≤ 1500 ∧ 0 < l.length ∧ x0 ≠ 0
  · obtain ⟨h1, h2, hx0⟩ := h1
    have h3 : (((l.length : Nat) : Int) == 0) = false := by rw [beq_eq_false_iff_ne]; omega
    have h4 : ((x0.toNat : Int) == 0) = false := by
      have : x0.toNat ≠ 0 := fun h => hx0 (UInt8.toNat_inj.1 (by simpa using h))
      simpa using this
    obtain ⟨i0, hmi⟩ := run_max0 at_
    obtain ⟨k, hk, hk'⟩ : ∃ k : Nat, (i0 : Int) % (l.length : Int) = k ∧ k < l.length := ⟨i0 % l.length, by simp, Nat.mod_lt _ h2⟩
    go_enter Try.func6, Try.ntmps6
    go_wp2_with fail
    refine (known_any w).mono ?_
    rintro e w1 ⟨rfl, hE1⟩
    go_wp2_with (at_builtin; refine wpList_append_u8 _ rfl (.tmp 26) (.tmp 27) rfl w1.heap.size (.slice none 0 0) [] rfl (World.ownsRow_nil _ _ _ _) _ _ l rfl (ha.ext hE1) (by simp; omega) (Nat.le_refl _) ?_)
    intro v2 w2 hown hgr hblk
    obtain ⟨g, cap, rfl, hg, hglt, hncap, hcapm⟩ := own_form hown h2
    unfold maxLen at hcapm
    have hcell := hown.cellAt k (by omega)
    have hfr := hown.frozenAt k
    obtain ⟨x1, hx1⟩ : ∃ x1, x1 = l[k] ^^^ x0 := ⟨_, rfl⟩
    obtain ⟨hst, _⟩ := hown.stored k (U8 (l[k] ^^^ x0))
    rw [turned_cells l k x0 hk'] at hst
    rw [show (l.map U8)[k]? = some (U8 l[k]) from by simp [hk']] at hcell
    have hxor := xor_u8 l[k] x0
    rw [← hx1] at hxor hst
    clear hx1
    have hE2 : Ext w1 w2 := (Keep.refl _ _).grown hgr (by simp [Value.ownBlock])
    clear hown hblk hgr
    have hE3 : Ext w (w2.setCell ⟨g, k, none⟩ (U8 x1)) := (hE1.ext hE2).setAt (fun h => by have := hE1.size; omega) _ _
    clear hE2 hE1
    go_wp2_with fail
    clear hcell hfr hxor hk hmi
    have hsz : (w2.setCell ⟨g, k, none⟩ (U8 x1)).heap.size = w2.heap.size := by simp [World.setCell]
    rw [← hsz]
    clear hsz
    generalize w2.setCell ⟨g, k, none⟩ (U8 x1) = w3 at *
    have hb2 : Bytess (w3.alloc (.cells #[.slice A l.length c] 22)) (w3.heap.size + 1) (.slice (some ⟨w3.heap.size, 0, none⟩) 1 1) [l] :=
      Bytess.one (Row.new (l := [_]) (by omega) (by simp [maxLen])) (((ha.ext hE3).ext ((Keep.refl _ _).alloc _)).more (by have := hE3.size; omega))
    refine (sum_any _ _ _ _ hb2).mono ?_
    rintro e w4 ⟨rfl, hE4⟩
    rw [List.flatten_singleton]
    have hown4 : Bytes w4 w4.heap.size (.slice (some ⟨g, 0, none⟩) l.length cap) (turned l k x0) := by
      have h5 : Bytes w3 w3.heap.size (.slice (some ⟨g, 0, none⟩) l.length cap) (turned l k x0) := Row.of_own hst
      exact (h5.ext (((Keep.refl _ _).alloc _).ext hE4)).more (by have := hE4.size; simp at this; omega)
    have hE5 := (hE3.alloc _).ext hE4
    clear hb2 hE4 hE3 hst
    go_wp2_with fail
    have hb2 : Bytess (w4.alloc (.cells #[.slice (some ⟨g, 0, none⟩) l.length cap] 22)) (w4.heap.size + 1) (.slice (some ⟨w4.heap.size, 0, none⟩) 1 1) [turned l k x0] :=
      Bytess.one (Row.new (l := [_]) (by omega) (by simp [maxLen])) ((hown4.ext ((Keep.refl _ _).alloc _)).more (by omega))
    refine (sum_any _ _ _ _ hb2).mono ?_
    rintro e w6 ⟨rfl, hE6⟩
    rw [List.flatten_singleton]
    have hE7 := (hE5.alloc _).ext hE6
    have hne : (((sumOf l).toNat : Int) != ((sumOf (turned l k x0)).toNat : Int)) = true := by
      simp only [bne_iff_ne, ne_eq, Int.natCast_inj]
      exact fun h => crc_turned_ne l k x0 hk' hx0 (BitVec.eq_of_toNat_eq h)
    clear hb2 hE6 hE5 hown4
    go_wp2
    go_ret
    exact ⟨rfl, hE7.toBelow⟩
  · rcases Nat.lt_or_ge 1500 l.length with h2 | h2
    · go_enter Try.func6, Try.ntmps6
      go_wp2_with fail
      refine (known_any w).mono ?_
      rintro e w1 ⟨rfl, hE1⟩
      go_wp2
      go_ret
      exact ⟨rfl, hE1.toBelow⟩
    · rcases Nat.eq_zero_or_pos l.length with h3 | h3
      · have h4 : (((l.length : Nat) : Int) == 0) = true := by rw [beq_iff_eq]; omega
        go_enter Try.func6, Try.ntmps6
        go_wp2_with fail
        refine (known_any w).mono ?_
        rintro e w1 ⟨rfl, hE1⟩
        go_wp2
        go_ret
        exact ⟨rfl, hE1.toBelow⟩
      · obtain rfl : x0 = 0 := by
          rcases Classical.em (x0 = 0) with h | h
          · exact h
          · exact absurd ⟨by omega, by omega, h⟩ h1
        have h4 : (((l.length : Nat) : Int) == 0) = false := by rw [beq_eq_false_iff_ne]; omega
        go_enter Try.func6, Try.ntmps6
        go_wp2_with fail
        refine (known_any w).mono ?_
        rintro e w1 ⟨rfl, hE1⟩
        go_wp2
        go_ret
        exact ⟨rfl, hE1.toBelow⟩
end Go.Proofs.Ytmmkoenkiobclaa
