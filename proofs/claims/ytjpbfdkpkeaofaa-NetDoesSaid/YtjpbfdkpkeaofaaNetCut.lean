/- Package net: Cut. -/
import Derived.Test.YtjpbfdkpkeaofaaNetAll
set_option linter.unusedSimpArgs false
set_option linter.unusedVariables false
namespace Go.Proofs.Ytjpbfdkpkeaofaa
open Go.RowKit
set_option linter.unusedVariables false

set_option maxHeartbeats 400000 in
theorem cut1_ok (w : World) (b : Nat) (s : Int) (m : Mail) (bv : Value) (h : w.cell? ⟨b, 0, none⟩ = some (.int .i64 s)) (p : Bool) (hp : (m.sess == s) = p) (hv : ∃ A n c, bv = .slice A n c) :
    Calls Try.prog 32 #[.agg #[.int .i64 m.sess, .bool m.up, bv], .pointer (some ⟨b, 0, none⟩)] w fun e w' => e = .returned (.bool p) ∧ Ext w w' := by
  obtain ⟨A, n, c, rfl⟩ := hv
  have hlt := lt_of_cell h
  have H := hid ((Keep.refl (fun _ => False) w).alloc (.cells #[.int .i64 m.sess, .bool m.up, .slice A n c] TMAIL))
  go_enter Try.func32, Try.ntmps32
  go_wp2
  go_ret
  exact ⟨by first | rfl | simp [hp], H.out⟩

/-- Is it of another session? -/
abbrev other (s : Int) (m : Mail) : Bool := !(m.sess == s)
/-- The closure of Cut, its session in block b. -/
abbrev cutF (b : Nat) : Value := .func (.func 32) #[] #[.pointer (some ⟨b, 0, none⟩)]

set_option maxHeartbeats 800000 in
theorem index_cut (w : World) (base : Nat) (S : BS) (v : Value) (ms : List Mail) (b : Nat) (s : Int) (h : Own EMail w base TMAIL S v ms) (hb : w.cell? ⟨b, 0, none⟩ = some (.int .i64 s)) :
    Calls Try.prog 38 #[v, cutF b] w fun e w' =>
      ((e = .returned (.int .i64 (-1)) ∧ ms.filter (other s) = ms) ∨ ∃ k : Nat, k < ms.length ∧ e = .returned (.int .i64 (k : Int)) ∧ (ms.take (k + 1)).filter (other s) = ms.take k) ∧ Ext w w' := by
  rcases h with ⟨rfl, rfl⟩ | ⟨g, cap, cur, rfl, hgr, hbk, hlc, hcm, hsz, hcs⟩
  · go_enter Try.func38, Try.ntmps38
    go_wp2
    go_loopw [8] (fun i wr => i = .int .i64 0 ∧ wr = w) (fun _ _ => 0)
    case atStart => exact ⟨rfl, rfl⟩
    case round =>
      obtain ⟨rfl, rfl⟩ := hrel
      go_wp2
      go_ret
      exact ⟨.inl ⟨rfl, rfl⟩, Keep.refl _ _⟩
  · have hO : Own EMail w base TMAIL S (.slice (some ⟨g, 0, none⟩) ms.length cap) ms := .inr ⟨g, cap, cur, rfl, hgr, hbk, hlc, hcm, hsz, hcs⟩
    have hblt := lt_of_cell hb
    have hglt := hbk.lt
    unfold maxLen at hcm
    generalize hn : ms.length = n at *
    have HN := hid hn
    have HO := hid hO
    clear hn hsz hcs hbk hO
    go_enter Try.func38, Try.ntmps38
    go_wp2
    go_loopw [8] (fun i wr => ∃ j : Nat, j ≤ n ∧ i = .int .i64 j ∧ (ms.take j).filter (other s) = ms.take j ∧ Ext w wr) (fun i _ => n - (intOf i).toNat)
    case atStart => exact ⟨0, by omega, rfl, rfl, Keep.refl _ _⟩
    case round =>
      obtain ⟨j, hj, rfl, hfl, hEj⟩ := hrel
      have HF := hid hfl
      clear hfl
      by_cases hlt : j < n
      · have hjm : j < ms.length := by rw [HN.out]; exact hlt
        obtain ⟨c0, hrd, hcell⟩ := (HO.out.ext EMail.ok hEj).at_ EMail.ok hjm
        have htk := take_succ_get ms j hjm
        generalize hm : ms[j]'hjm = m at *
        obtain ⟨bv, rfl, hbv⟩ := hrd
        have e0 := hcell 0 _ rfl
        have e1 := hcell 1 _ rfl
        have e2 := hcell 2 _ rfl
        have hz3 : EMail.size = 3 := rfl
        simp only [hz3] at e0 e1 e2
        rw [Nat.add_zero] at e0
        obtain ⟨A, c, rfl, _⟩ := hbv.shape
        have hbj := (hEj.cell hblt id).trans hb
        have HTK := hid htk
        clear hz3 hcell hm htk hbv
        obtain ⟨p, hp⟩ : ∃ p : Bool, (m.sess == s) = p := ⟨_, rfl⟩
        go_wp2_with fail
        refine (cut1_ok _ _ _ m _ hbj p hp ⟨_, _, _, rfl⟩).mono ?_
        rintro e w2 ⟨rfl, hE2⟩
        have HE := hid (hEj.ext hE2)
        have HP := hid hp
        clear hE2 hEj hp
        cases p with
        | true =>
          go_wp2
          go_ret
          refine ⟨.inr ⟨j, hlt, rfl, ?_⟩, HE.out⟩
          rw [HTK.out, List.filter_append, HF.out]
          simp [other, HP.out]
        | false =>
          go_wp2
          go_roundw
          case rel =>
            refine ⟨j + 1, by omega, by go_num, ?_, HE.out⟩
            rw [HTK.out, List.filter_append, HF.out]
            simp [other, HP.out]
          case measure => simp [intOf]; omega
      · obtain rfl : j = n := by omega
        have HE := hid hEj
        clear hEj
        go_wp2
        go_ret
        refine ⟨.inl ⟨rfl, ?_⟩, HE.out⟩
        have := HF.out
        rwa [List.take_of_length_le (by have := HN.out; omega)] at this
end Go.Proofs.Ytjpbfdkpkeaofaa
