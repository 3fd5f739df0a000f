/- The law's 'known' of chapter 05. -/
import Derived.Test.YtimhfkllamimeaaSeqH
import Derived.Test.YtimhfkllamimeaaSeqD
set_option linter.unusedSimpArgs false
set_option linter.unusedVariables false
namespace Go.Proofs.Ytimhfkllamimeaa
open Go.RowKit
set_option linter.unusedVariables false

/-- Two values of numbers in a new block. -/
theorem sl_two_val (w : World) (k1 k2 : UInt8) (n1 n2 : Int) : Sl EVal (w.alloc (.cells #[U8 k1, .int .i64 n1, .string ⟨#[]⟩, .slice none 0 0, .slice none 0 0, U8 k2, .int .i64 n2, .string ⟨#[]⟩, .slice none 0 0, .slice none 0 0] TVAL)) (fun _ => True) (.slice (some ⟨w.heap.size, 0, none⟩) 2 2) [.mk k1 n1 ⟨#[]⟩ [] [], .mk k2 n2 ⟨#[]⟩ [] []] := by
  refine ⟨[U8 k1, .int .i64 n1, .string ⟨#[]⟩, .slice none 0 0, .slice none 0 0, U8 k2, .int .i64 n2, .string ⟨#[]⟩, .slice none 0 0, .slice none 0 0], (RowS.new (w := w) (sz := 5) (n := 2) rfl (by simp [maxLen]) _).more fun _ _ _ => trivial, ?_⟩
  have h : ∀ w k n, EVal.rd w (fun _ => True) [U8 k, .int .i64 n, .string ⟨#[]⟩, .slice none 0 0, .slice none 0 0] (.mk k n ⟨#[]⟩ [] []) := fun w k n => rdV_iff.2 ⟨_, _, rfl, Sl.nil _ _, Sl.nil _ _⟩
  exact ⟨[U8 k1, .int .i64 n1, .string ⟨#[]⟩, .slice none 0 0, .slice none 0 0], _, rfl, h _ _ _, [U8 k2, .int .i64 n2, .string ⟨#[]⟩, .slice none 0 0, .slice none 0 0], _, rfl, h _ _ _, rfl⟩

instance (a : Int) : Decidable (Sm a) := by unfold Sm; infer_instance
set_option maxHeartbeats 3200000 in
theorem law_known (w : World) : Calls Try.prog 12 #[] w fun e w' => e = .returned (.bool true) ∧ Ext w w' := by
  go_enter Try.func12, Try.ntmps12
  go_wp2_with fail
  refine (turn_any 7 4 _ _ _ _ _ _ _ _ _ _ _ _ _ _ _ _ _ _ 0 2 1 0 true w (by decide) (by decide) (by decide) (by decide)).mono ?_
  rintro e w1 ⟨v1, rfl, hE1, h1⟩
  rw [show turnL 7 0 2 4 1 0 true = some (0, 3) from by decide] at h1
  obtain ⟨g1, rfl, _, hB1⟩ := h1
  have x3 := hB1.cell 3
  have x4 := hB1.cell 4
  simp at x3 x4
  have HE1 := hid hE1
  clear hE1 hB1
  go_wp2_with fail
  refine (turn_any 5 5 _ _ _ _ _ _ _ _ _ _ _ _ _ _ _ _ _ _ 2 0 2 0 true w1 (by decide) (by decide) (by decide) (by decide)).mono ?_
  rintro e w2 ⟨v2, rfl, hE2, h2⟩
  rw [show turnL 5 2 0 5 2 0 true = none from by decide] at h2
  obtain rfl := h2
  have x3 := (hE2.cell (lt_of_cell x3) id).trans x3
  have x4 := (hE2.cell (lt_of_cell x4) id).trans x4
  have HE2 := hid (HE1.out.ext hE2)
  clear hE2
  go_wp2_with fail
  have hl := sl_two_val w2 2 2 1 2
  have hE3 : Ext w2 (w2.alloc (.cells #[U8 2, .int .i64 1, .string ⟨#[]⟩, .slice none 0 0, .slice none 0 0, U8 2, .int .i64 2, .string ⟨#[]⟩, .slice none 0 0, .slice none 0 0] TVAL)) := (Keep.refl _ _).alloc _
  change Calls _ _ #[.slice _ 2 2, _] (w2.alloc (.cells #[U8 2, .int .i64 1, .string ⟨#[]⟩, .slice none 0 0, .slice none 0 0, U8 2, .int .i64 2, .string ⟨#[]⟩, .slice none 0 0, .slice none 0 0] TVAL)) _
  generalize (w2.alloc (.cells #[U8 2, .int .i64 1, .string ⟨#[]⟩, .slice none 0 0, .slice none 0 0, U8 2, .int .i64 2, .string ⟨#[]⟩, .slice none 0 0, .slice none 0 0] TVAL)) = w3 at *
  refine (do_mov [.mk 2 1 ⟨#[]⟩ [] [], .mk 2 2 ⟨#[]⟩ [] []] (fun _ => True) _ _ _ _ _ _ _ _ _ _ 0 1 (.mk 2 1 ⟨#[]⟩ [] []) w3 hl (by decide) rfl (by decide) (by simp [V.sizes, V.size, F.sizes])).mono ?_
  rintro e w4 ⟨A, rfl, hl4, hE4⟩
  obtain ⟨b4, o4, c4, hA, hb4, hlt4, hr4, hc4⟩ := hl4.at_ EVal.ok (k := 0) (by decide)
  obtain ⟨_, _, e, _⟩ := rdV_iff.1 hr4
  subst e
  have y1 : w4.cell? ⟨b4, o4 + 1, none⟩ = some (.int .i64 2) := hc4 1 _ rfl
  subst hA
  have x3 := (hE3.cell (lt_of_cell x3) id).trans x3
  have x4 := (hE3.cell (lt_of_cell x4) id).trans x4
  have x3 := (hE4.cell (lt_of_cell x3) id).trans x3
  have x4 := (hE4.cell (lt_of_cell x4) id).trans x4
  have HE4 := hid ((HE2.out.ext hE3).ext hE4)
  clear hE4 hE3 hl hl4 HE1 HE2 hc4 hr4
  go_wp2_with fail
  refine (check_any 1 0 _ _ _ _ _ _ _ _ _ 0 0 w4 (by omega)).mono ?_
  rintro e w5 ⟨rfl, hE5⟩
  rw [show checkL 1 0 0 0 = 31 from by decide]
  have HE5 := hid (HE4.out.ext hE5)
  clear hE5 HE4
  go_wp2_with fail
  go_ret
  exact ⟨rfl, HE5.out⟩
end Go.Proofs.Ytimhfkllamimeaa
