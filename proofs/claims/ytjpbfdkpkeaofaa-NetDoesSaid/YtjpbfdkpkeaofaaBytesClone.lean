/- bytes.Clone by contract. -/
import Derived.Test.YtjpbfdkpkeaofaaRows
import Derived.Test.YtjpbfdkpkeaofaaOwn
import Derived.WalkKit
import Derived.WalkSpells
set_option linter.unusedSimpArgs false
set_option linter.unusedVariables false
namespace Go.Proofs.Ytjpbfdkpkeaofaa
open Go.RowKit
set_option linter.unusedVariables false

theorem ty_u8 : TyInfo Try.prog 28 5 1 1 := by
  obtain ⟨i, h1, h2, h3, h4⟩ := info_parts (show (Try.prog.info? 5).map (fun i => (i.zero, i.size, i.bytes)) = some (some (.int .u8 0), 1, 1) from by kernel_rfl)
  exact ⟨Try.underlying28, i, _, h1, h2, h3, h4, rfl⟩

set_option maxHeartbeats 400000 in
theorem clone_bytes (v : Value) (l : List UInt8) (S : BS) (w : World) (hv : BytesS w S v l) (hl : l.length ≤ 140737488355328) :
    Calls Try.prog 33 #[v] w fun e w' => ∃ v', e = .returned v' ∧ BytesS w' (fun k => w.heap.size ≤ k) v' l ∧ Ext w w' := by
  obtain ⟨A, c, rfl, h1, h2⟩ := hv.shape
  unfold maxLen at h2
  cases A with
  | none =>
    have hn : l = [] := by
      obtain ⟨cs, ⟨_, A', c', e, _, _, h3⟩, _⟩ := hv
      rcases Nat.eq_zero_or_pos l.length with h0 | h0
      · exact List.eq_nil_of_length_eq_zero h0
      · obtain ⟨b, off, e', _⟩ := h3 h0
        injection e with e1 _ _
        rw [e'] at e1
        cases e1
    subst hn
    have heq := Lib.run_eql_slice_nil (P := Try.prog) w 28 5 none 0 c 0 0 Try.underlying28
    rw [List.length_nil]
    go_enter Try.func33, Try.ntmps33
    go_wp2
    go_ret
    exact ⟨_, rfl, Sl.nil _ _, Keep.refl _ _⟩
  | some a =>
    have heq := Lib.run_eql_slice_nil (P := Try.prog) w 28 5 (some a) l.length c 0 0 Try.underlying28
    have hown : Own EU8 (w.alloc (.cells #[] 5)) w.heap.size 5 (fun _ => False) (.slice (some ⟨w.heap.size, 0, none⟩) 0 0) [] :=
      .inr ⟨w.heap.size, 0, #[], rfl, Nat.le_refl _, Blk.new _ _ _, by simp, by simp [maxLen], by simp, rfl⟩
    have hsrc := (hv.more (S' := fun k => S k ∧ k < w.heap.size) EU8.ok (fun k hk hs => ⟨hs, hk⟩)).ext EU8.ok ((Keep.refl _ _).alloc (.cells #[] 5))
    go_enter Try.func33, Try.ntmps33
    go_wp2_with (at_builtin; refine wpList_own_append _ rfl (.tmp 5) (.tmp 6) EU8.ok ty_u8 rfl rfl rfl hown hsrc ?c1 ?c2 ?c3 ?c4 ?_)
    case c1 => intro g hg; have hg : w.heap.size = g := Option.some.inj hg; exact ⟨id, fun h => by have := h.2; omega⟩
    case c2 => simp; omega
    case c3 => simp [maxLen]; omega
    case c4 => simp
    intro v' w' hown' hk hb
    have hE : Ext w w' := ((Keep.refl (fun _ => False) w).alloc _).trans hk (fun k hlt e => by have e : w.heap.size = k := Option.some.inj e; omega)
    have hout : BytesS w' (fun k => w.heap.size ≤ k) v' l := by
      obtain ⟨cs, h1, h2⟩ := hown'.rowS EU8.ok
      refine ⟨cs, h1.more fun k _ e => (hown'.lt e).1, ?_⟩
      rw [cells_U8 h2]
      exact U8_cells _
    have H := hid hout
    clear hout hown' hb hsrc hown
    go_wp2
    go_ret
    exact ⟨_, rfl, H.out, hE⟩
end Go.Proofs.Ytjpbfdkpkeaofaa
