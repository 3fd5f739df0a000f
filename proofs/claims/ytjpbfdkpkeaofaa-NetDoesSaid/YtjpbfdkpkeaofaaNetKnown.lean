/- The chapter's example. -/
import Derived.Test.YtjpbfdkpkeaofaaNetLawA
set_option linter.unusedSimpArgs false
set_option linter.unusedVariables false
namespace Go.Proofs.Ytjpbfdkpkeaofaa
open Go.RowKit
set_option linter.unusedVariables false

theorem far_NF {w0 w w' : World} {bn : Nat} {g : Option Nat} (h : Ext w0 w) (hk : Keep (NF bn g) w w') (hb : w0.heap.size ≤ bn) (hg : ∀ k, g = some k → w0.heap.size ≤ k) : Ext w0 w' :=
  h.trans hk fun k hk e => by
    rcases e with rfl | e
    · omega
    · have := hg k e; omega
theorem far_step {w0 w : World} {g g' : Option Nat} (hs : w0.heap.size ≤ w.heap.size) (hg : ∀ k, g = some k → w0.heap.size ≤ k) (h : g' = g ∨ ∃ k, g' = some k ∧ w.heap.size ≤ k) : ∀ k, g' = some k → w0.heap.size ≤ k := by
  rcases h with rfl | ⟨k, rfl, h⟩
  · exact hg
  · intro k' e; injection e with e; omega

theorem const_byte (w : World) (c : UInt8) : BytesS (w.alloc (.cells #[U8 c] 5 (1, 2))) (fun k => k = w.heap.size) (.slice (some ⟨w.heap.size, 0, none⟩) 1 1) [c] :=
  ⟨[U8 c], RowS.new (w := w) (cs := [U8 c]) (n := 1) (sz := 1) rfl (by simp [maxLen]) (1, 2), U8_cells [c]⟩

set_option maxHeartbeats 1600000 in
theorem known_any (w : World) : Calls Try.prog 7 #[] w fun e w' => e = .returned (.bool true) ∧ Ext w w' := by
  have kc := fun (w : World) (C : Array Value) (n c : Nat) => Lib.run_convert_bytes_const (P := Try.prog) w 28 5 C n c Try.underlying28 Try.underlying5
  go_enter Try.func7, Try.ntmps7
  go_wp2_with fail
  refine (new_ok _).mono ?_
  rintro e w1 ⟨rfl, hn1, hE1⟩
  generalize hbn : w.heap.size = bn at *
  have hb1 : w.heap.size ≤ bn := by omega
  have hw1 := hE1.size
  clear hbn
  go_wp2_with fail
  have hx2 : Ext w1 (w1.alloc (.cells #[.int .u8 97] 5 (1, 2))) := (Keep.refl _ _).alloc _
  have hc2 := const_byte w1 97
  have hn2 := hn1.ext hx2
  have hE2 := hE1.ext hx2
  have hz2 := hE2.size
  refine (send_yes _ _ _ _ _ _ ⟨1, false, [97]⟩ _ hn2 hc2 (by simp) (by simp)).mono ?_
  clear hc2 hx2 hn1 hn2 hE1
  rintro e w3 ⟨rfl, g3, hn3, hg3, hK3⟩
  have hg3' := far_step hz2 (fun k h => by cases h) hg3
  have hE3 := far_NF hE2 hK3 hb1 (fun k h => by cases h)
  simp only [List.nil_append] at hn3
  generalize SNew _ _ g3 = S3 at hn3
  clear hE2 hK3 hg3 hz2
  go_wp2_with fail
  have hx4 : Ext w3 (w3.alloc (.cells #[.int .u8 98] 5 (1, 2))) := (Keep.refl _ _).alloc _
  have hc4 := const_byte w3 98
  have hn4 := hn3.ext hx4
  have hE4 := hE3.ext hx4
  have hz4 := hE4.size
  refine (send_yes _ _ _ _ _ _ ⟨2, false, [98]⟩ _ hn4 hc4 (by simp) (by simp)).mono ?_
  clear hc4 hx4 hn3 hn4 hE3
  rintro e w5 ⟨rfl, g5, hn5, hg5, hK5⟩
  have hg5' := far_step hz4 hg3' hg5
  have hE5 := far_NF hE4 hK5 hb1 hg3'
  simp only [List.cons_append, List.nil_append] at hn5
  generalize SNew _ _ g5 = S5 at hn5
  clear hE4 hK5 hg5 hz4 hg3'
  go_wp2_with fail
  refine (late_yes _ _ _ _ _ 0 hn5 (by simp) (by simp)).mono ?_
  rintro e w6 ⟨rfl, g6, hn6, hg6, hK6⟩
  have hg6' := far_step hE5.size hg5' hg6
  have hE6 := far_NF hE5 hK6 hb1 hg5'
  simp only [List.eraseIdx_cons_zero, List.getElem_cons_zero, List.cons_append, List.nil_append] at hn6
  generalize SNew _ _ g6 = S6 at hn6
  clear hE5 hK6 hg6 hn5 hg5'
  go_wp2_with fail
  refine (all_ok _ _ _ _ _ hn6 (by simp) (by simp)).mono ?_
  rintro e w7 ⟨v7, rfl, hv7, hx7⟩
  have hE7 := hE6.ext hx7
  have hn7 := hn6.ext hx7
  have hz67 := hE6.size
  clear hx7 hn6 hE6
  obtain ⟨A7, c7, rfl, _⟩ := hv7.shape
  obtain ⟨b0, o0, q0, rfl, _, hl0, ⟨bv0, rfl, hbv0⟩, hr0⟩ := hv7.at_ EMail.ok (k := 0) (by simp)
  obtain ⟨b0', o0', q1, e, _, hl1, ⟨bv1, rfl, hbv1⟩, hr1⟩ := hv7.at_ EMail.ok (k := 1) (by simp)
  injection e with e; injection e with e1 e2 _; subst e1 e2
  have e2 := hr0 2 _ rfl
  have f0 := hr1 0 _ rfl
  have hz3 : EMail.size = 3 := rfl
  simp only [hz3, List.getElem_cons_zero, List.getElem_cons_succ, Nat.zero_mul, Nat.add_zero, Nat.one_mul] at e2 f0 hbv0
  have hcv := convert_bytesS hbv0
  have hA0 := hbv0.shape
  obtain ⟨A8, c8, rfl, _⟩ := hA0
  have hcv' : (convert 28 9 (.slice A8 1 c8)).run Try.prog w7 = .ok (.string ⟨#[98]⟩) w7 := hcv
  have e2' : w7.cell? ⟨b0, o0 + 2, none⟩ = some (.slice A8 1 c8) := e2
  clear hr0 hr1 hbv0 hbv1 hz3 hv7 hcv e2
  rw [show ([(⟨2, false, [98]⟩ : Mail), ⟨1, false, [97]⟩] : List Mail).length = 2 from rfl]
  go_wp2_with fail
  refine (drop_no _ _ _ _ _ _ hn7 (by simp)).mono ?_
  rintro e w8 ⟨rfl, hx8⟩
  have hE8 := hE7.ext hx8
  have hn8 := hn7.ext hx8
  clear hx8 hn7 hE7 hcv' e2' f0 hl0 hl1
  go_wp2_with fail
  refine (cut_ok _ _ _ _ _ _ hn8).mono ?_
  rintro e w9 ⟨rfl, hn9, hK9⟩
  have hE9 := far_NF hE8 hK9 hb1 hg6'
  rw [show (([(⟨2, false, [98]⟩ : Mail), ⟨1, false, [97]⟩] : List Mail).length : Int) - ((([(⟨2, false, [98]⟩ : Mail), ⟨1, false, [97]⟩] : List Mail).filter (other 1)).length : Int) = 1 from by decide]
  clear hK9 hn9 hn8 hE8
  go_wp2_with fail
  go_ret
  exact ⟨rfl, hE9⟩
end Go.Proofs.Ytjpbfdkpkeaofaa
