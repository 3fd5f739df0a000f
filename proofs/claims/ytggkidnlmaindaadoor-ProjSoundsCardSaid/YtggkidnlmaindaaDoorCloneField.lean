/- slices.Clone, by contract. -/
import Derived.Test.YtggkidnlmaindaaDoorValA
set_option linter.unusedSimpArgs false
set_option linter.unusedVariables false
namespace Go.Proofs.YtggkidnlmaindaaDoor
open Go.RowKit
set_option linter.unusedVariables false

set_option maxHeartbeats 400000 in
theorem clone_fields (v : Value) (l : List _) (S : BS) (w : World) (hv : Sl EField w S v l) (hl : l.length ≤ 1000000) (hSr : ∀ k, S k → k < w.heap.size) :
    Calls Tryd.prog 56 #[v] w fun e w' => ∃ v', e = .returned v' ∧ Own EField w' w.heap.size TFIELD S v' l ∧ Ext w w' := by
  obtain ⟨A, c, rfl, h1, h2⟩ := hv.shape
  unfold maxLen at h2
  cases A with
  | none =>
    have hn : l = [] := by
      obtain ⟨cs, ⟨_, A', c', e, _, _, h3⟩, _⟩ := hv
      rcases Nat.eq_zero_or_pos l.length with h0 | h0
      · exact List.eq_nil_of_length_eq_zero h0
      · obtain ⟨b, off, e', _⟩ := h3 h0
        injection e with e1 _ _
        rw [e'] at e1
        cases e1
    subst hn
    have heq := Lib.run_eql_slice_nil (P := Tryd.prog) w 33 TFIELD none 0 c 0 0 Tryd.underlying33
    rw [List.length_nil]
    go_enter Tryd.func56, Tryd.ntmps56
    go_wp2
    go_ret
    exact ⟨_, rfl, Own.nil _ _ _ _, Keep.refl _ _⟩
  | some a =>
    have heq := Lib.run_eql_slice_nil (P := Tryd.prog) w 33 TFIELD (some a) l.length c 0 0 Tryd.underlying33
    have hown : Own EField (w.alloc (.cells #[] TFIELD)) w.heap.size TFIELD (fun _ => False) (.slice (some ⟨w.heap.size, 0, none⟩) 0 0) [] :=
      .inr ⟨w.heap.size, 0, #[], rfl, Nat.le_refl _, Blk.new _ _ _, by simp, by simp [maxLen], by simp, rfl⟩
    have hsrc := hv.ext EField.ok ((Keep.refl _ _).alloc (.cells #[] TFIELD))
    have HSr := hid hSr
    clear hSr
    go_enter Tryd.func56, Tryd.ntmps56
    go_wp2_with (at_builtin; refine wpList_own_append _ rfl (.tmp 5) (.tmp 6) EField.ok ty_field rfl rfl rfl hown hsrc ?c1 ?c2 ?c3 ?c4 ?_)
    case c1 => intro g hg; have hg : w.heap.size = g := Option.some.inj hg; exact ⟨id, fun h => by have := HSr.out _ h; omega⟩
    case c2 => simp; omega
    case c3 => simp [maxLen]; omega
    case c4 => simp
    intro v' w' hown' hk hb
    have hE : Ext w w' := ((Keep.refl (fun _ => False) w).alloc _).trans hk (fun k hlt e => by have e : w.heap.size = k := Option.some.inj e; omega)
    have H := hid (hown'.more (S' := S) EField.ok (fun k _ h => by first | exact h | exact Or.elim h False.elim id))
    clear hown' hb hsrc hown
    go_wp2
    go_ret
    exact ⟨_, rfl, H.out, hE⟩
end Go.Proofs.YtggkidnlmaindaaDoor
