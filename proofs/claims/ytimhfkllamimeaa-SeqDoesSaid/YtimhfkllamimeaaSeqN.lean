/- The law's 'numbers' of chapter 05. -/
import Derived.Test.YtimhfkllamimeaaSeqK
set_option linter.unusedSimpArgs false
set_option linter.unusedVariables false
namespace Go.Proofs.Ytimhfkllamimeaa
open Go.RowKit
set_option linter.unusedVariables false

/-- A number, flat. -/
def nV (k : UInt8) (n : Int) : V := .mk k n ⟨#[]⟩ [] []
def numsL (n : Nat) : List V := (List.range n).map fun i : Nat => nV 2 (1000 + (i : Int))
theorem numsL_len (n : Nat) : (numsL n).length = n := by simp [numsL]
theorem numsL_succ (n : Nat) : numsL (n + 1) = numsL n ++ [nV 2 (1000 + n)] := by simp [numsL, List.range_succ]
theorem nV_rd (w : World) (S : BS) (k : UInt8) (n : Int) : EVal.rd w S [U8 k, .int .i64 n, .string ⟨#[]⟩, .slice none 0 0, .slice none 0 0] (nV k n) := rdV_iff.2 ⟨_, _, rfl, Sl.nil _ _, Sl.nil _ _⟩

set_option maxHeartbeats 1600000 in
theorem numbers_ok (n : Nat) (w : World) (hn : n ≤ 1000) :
    Calls Try.prog 14 #[.int .i64 n] w fun e w' => ∃ v, e = .returned v ∧ Own EVal w' w.heap.size TVAL (fun _ => False) v (numsL n) ∧ Ext w w' := by
  go_enter Try.func14, Try.ntmps14
  go_wp2_with fail
  go_loopw [3, 4] (fun x y wr => ∃ (j : Nat), j ≤ n ∧ y = .int .i64 j ∧ Own EVal wr w.heap.size TVAL (fun _ => False) x (numsL j) ∧ Ext w wr) (fun _ y _ => n - (intOf y).toNat)
  case atStart => exact ⟨0, by omega, rfl, Own.nil _ _ _ _, Keep.refl _ _⟩
  case round =>
    obtain ⟨j, hj, rfl, hown, hE⟩ := hrel
    obtain ⟨A2, c2, rfl, hl2, hc2⟩ := hown.shape
    by_cases hlt : j < n
    · have e1 : IntKind.i64.wrap (1000 + (j : Int)) = 1000 + (j : Int) := IntWalk.i64_in _ (by omega)
      have hE' : Ext w (wr.alloc (.cells #[U8 2, .int .i64 (1000 + (j : Int)), .string ⟨#[]⟩, .slice none 0 0, .slice none 0 0] TVAL)) := hE.alloc _
      have hO' := hown.ext EVal.ok ((Keep.refl _ wr).alloc (.cells #[U8 2, .int .i64 (1000 + (j : Int)), .string ⟨#[]⟩, .slice none 0 0, .slice none 0 0] TVAL))
      have hR := RowS.new (w := wr) (t := TVAL) (sz := 5) (n := 1) (cs := [U8 2, .int .i64 (1000 + (j : Int)), .string ⟨#[]⟩, .slice none 0 0, .slice none 0 0]) rfl (by simp [maxLen]) (0, 0)
      have HO2 := hid hO'
      have HE2 := hid hE'
      have HR := hid hR
      have hz := hE.size
      clear hown hE hO' hE' hR
      rw [numsL_len] at *
      go_wp2_with (at_builtin; refine wpList_own_append2 (ys := [nV 2 (1000 + (j : Int))]) _ rfl (.tmp 10) (.tmp 14) EVal.ok ty_val rfl rfl rfl HO2.out HR.out (Cells.single (nV_rd _ (fun _ => False) _ _)) ?c1 ?c2 ?c3 ?c4 ?_)
      case c1 => exact fun _ _ => ⟨id, id⟩
      case c2 => rw [numsL_len]; simp; omega
      case c3 => rw [numsL_len]; simp [maxLen]; omega
      case c4 => rw [World.size_alloc]; omega
      intro v' w' hown' hk hb
      obtain ⟨A3, c3, rfl, hl3, hc3⟩ := hown'.shape
      have hk2 : Ext w w' := HE2.out.trans hk (fun k hlt e => by have := (HO2.out.lt e).1; omega)
      rw [← numsL_succ, numsL_len] at *
      have HO3 := hid (hown'.more EVal.ok (S' := fun _ => False) fun _ _ h => by simp at h)
      have HE3 := hid hk2
      clear hown' hk hk2 hb HO2 HR HE2
      go_wp2
      exact ⟨⟨j + 1, by omega, by go_num, HO3.out, HE3.out⟩, by simp [intOf]; omega⟩
    · obtain rfl : j = n := by omega
      have HO3 := hid hown
      have HE3 := hid hE
      clear hown hE
      rw [numsL_len] at *
      go_wp2
      go_ret
      exact ⟨_, rfl, HO3.out, HE3.out⟩
end Go.Proofs.Ytimhfkllamimeaa
