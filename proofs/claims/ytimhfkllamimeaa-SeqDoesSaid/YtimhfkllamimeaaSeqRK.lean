/- The two Dos side by side. -/
import Derived.Test.YtimhfkllamimeaaSeqRJ
import Derived.Test.YtimhfkllamimeaaSeqC3
import Derived.Test.YtimhfkllamimeaaSeqS
import Derived.Test.YtimhfkllamimeaaSeqCut
import Derived.Test.YtimhfkllamimeaaOpen
set_option linter.unusedSimpArgs false
set_option linter.unusedVariables false
namespace Go.Proofs.Ytimhfkllamimeaa
open Go.RowKit

theorem ck_cases (n : Nat) (k : UInt8) (i j : Int) : checkL n k i j = 0 ∨ checkL n k i j = 31 ∨ checkL n k i j = 32 := by
  unfold checkL
  (repeat' split) <;> simp
set_option maxHeartbeats 3200000 in
theorem rdo_bad (n : Nat) (lv : Value) (k : UInt8) (p key nn v0 v1 v2 v3 v4 s : Value) (i j : Int) (A : Option Addr) (c : Nat) (w : World) (hn : n ≤ 1000000000000) (hlv : lv = .slice A n c) (hc : checkL n k i j ≠ 0) :
    Calls Try.prog 17 #[lv, cmpV (U8 k) p key i j nn v0 v1 v2 v3 v4 s] w fun e w' => e = .returned (.tuple #[.slice none 0 0, .int .i64 (checkL n k i j)]) ∧ Ext w w' := by
  subst hlv
  have hne : (checkL n k i j != 0) = true := by simpa using hc
  have HE1 := hid (show Ext w (w.alloc (.cells (aC k i j p key nn v0 v1 v2 v3 v4 s) TCOMP)) from (Keep.refl _ _).alloc _)
  go_enter Try.func17, Try.ntmps17
  go_wp2_with (go_at_call 20; refine (rcheck_any _ _ _ _ _ _ _ _ _ _ _ _ _ _ hn).mono ?_; rintro e w1 ⟨rfl, hT⟩; have HT := hid hT; clear hT)
  go_ret2
  exact ⟨rfl, HE1.out.ext HT.out⟩
theorem rdo_any (xs ys : List V) (S : BS) (lv : Value) (k : UInt8) (i j : Int) (vk : UInt8) (vn : Int) (w : World) (hl : Sl EVal w S lv xs) (hf : Flat xs) (hn : xs.length ≤ 100000) (h : doL xs ⟨k, i, j, nV vk vn⟩ = some ys) :
    Calls Try.prog 17 #[lv, .agg (cmCells k i j vk vn).toArray] w (RDoIs w ys) := by
  have hk : checkL xs.length k i j = 0 := by
    by_cases hk : checkL xs.length k i j = 0
    · exact hk
    · unfold doL at h; rw [if_neg hk] at h; cases h
  rcases check_ok hk with ⟨rfl, _⟩ | ⟨rfl, _⟩ | ⟨rfl, _⟩ | ⟨rfl, _⟩
  · exact rdo_4 xs ys S lv i j vk vn w hl hf hn h
  · exact rdo_5 xs ys S lv i j vk vn w hl hf hn h
  · exact rdo_6 xs ys S lv i j vk vn w hl hf hn h
  · exact rdo_7 xs ys S lv i j vk vn w hl hf hn h
/-- What the two calls answer: like lists, like codes. -/
def BothIs (w : World) (xs : List V) (ck : Int) (e : Ending) (w' : World) (f : Int → Value) : Prop := ∃ A c, e = .returned (.tuple #[.slice A xs.length c, f ck]) ∧ Sl EVal w' (fun _ => True) (.slice A xs.length c) xs ∧ Ext w w'
theorem both (n : Nat) (l : List V) (hl : l.length = n) (hf : Flat l) (hn : n ≤ 1000) (k : UInt8) (i j : Int) (vk : UInt8) (vn : Int) : ∃ (ys : List V) (ck : Int), (ck = 0 ∨ ck = 31 ∨ ck = 32) ∧ (∀ x ∈ ys, ∃ k n, x = V.mk k n ⟨#[]⟩ [] []) ∧
    (∀ (lv : Value) (w : World), Sl EVal w (fun _ => True) lv l → Calls Try.prog 16 #[lv, .agg (cmCells k i j vk vn).toArray] w (fun e w' => BothIs w ys ck e w' (fun z => .int .u16 z))) ∧
    (∀ (lv : Value) (w : World), Sl EVal w (fun _ => True) lv l → Calls Try.prog 17 #[lv, .agg (cmCells k i j vk vn).toArray] w (fun e w' => BothIs w ys ck e w' (fun z => .int .i64 z))) := by
  by_cases hk : checkL n k i j = 0
  · obtain ⟨ys, hd, _⟩ := do_F l ⟨k, i, j, nV vk vn⟩ (by simp only [hl]; exact hk)
    refine ⟨ys, 0, .inl rfl, flat_leaf (flat_do hf ⟨_, _, rfl⟩ hd).1, fun lv w h => ?_, fun lv w h => ?_⟩
    · refine (do_any l ys _ lv k i j vk vn w h hf (by omega) hd).mono ?_
      rintro e w' ⟨A, rfl, h1, h2⟩
      exact ⟨A, _, rfl, h1.more EVal.ok fun _ _ _ => trivial, h2⟩
    · refine (rdo_any l ys _ lv k i j vk vn w h hf (by omega) hd).mono ?_
      rintro e w' ⟨A, c, rfl, h1, h2⟩
      exact ⟨A, c, rfl, h1, h2⟩
  · refine ⟨[], checkL n k i j, ck_cases n k i j, fun x hx => (by cases hx), fun lv w h => ?_, fun lv w h => ?_⟩
    · obtain ⟨A, c, rfl, _⟩ := h.shape
      refine (do_bad n _ k _ _ _ _ _ _ _ _ _ i j A c w (by omega) (by rw [hl]) hk).mono ?_
      rintro e w' ⟨rfl, h2⟩
      exact ⟨none, 0, rfl, Sl.nil _ _, h2⟩
    · obtain ⟨A, c, rfl, _⟩ := h.shape
      refine (rdo_bad n _ k _ _ _ _ _ _ _ _ _ i j A c w (by omega) (by rw [hl]) hk).mono ?_
      rintro e w' ⟨rfl, h2⟩
      exact ⟨none, 0, rfl, Sl.nil _ _, h2⟩
end Go.Proofs.Ytimhfkllamimeaa
