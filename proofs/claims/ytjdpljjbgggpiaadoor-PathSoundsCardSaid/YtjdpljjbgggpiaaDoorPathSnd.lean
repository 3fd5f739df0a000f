/- path.Sound over a contract of its closure. -/
import Derived.Test.YtjdpljjbgggpiaaDoorPathB
import Derived.Laws.Strings
set_option linter.unusedSimpArgs false
set_option linter.unusedVariables false
namespace Go.Proofs.YtjdpljjbgggpiaaDoor
open Go.RowKit
set_option linter.unusedVariables false

/-- The closure's contract, at these steps, in whatever world that has grown out of w0. -/
def BadIs (w0 : World) (bad : St → Bool) (s : St) : Prop := ∀ w1, Ext w0 w1 → Calls Tryd.prog 34 #[stV s] w1 fun e w' => e = .returned (.bool (bad s)) ∧ Ext w1 w'
abbrev badF : Value := .func (.func 34) #[] #[]

set_option maxHeartbeats 1600000 in
theorem index_st (bad : St → Bool) (w : World) (S : BS) (v : Value) (p : List St) (h : Sl ESt w S v p) (hb : ∀ s ∈ p, BadIs w bad s) :
    Calls Tryd.prog 44 #[v, badF] w fun e w' =>
      ((e = .returned (.int .i64 (-1)) ∧ p.any bad = false) ∨ ∃ k : Nat, e = .returned (.int .i64 (k : Int)) ∧ p.any bad = true) ∧ Ext w w' := by
  obtain ⟨A, c, rfl, hlc, hcm⟩ := h.shape
  unfold maxLen at hcm
  have HA := hid h
  have HBD := hid hb
  generalize hn : p.length = n at *
  have HN := hid hn
  clear h hn hb
  go_enter Tryd.func44, Tryd.ntmps44
  go_wp2
  go_loopw [8] (fun i wr => ∃ j : Nat, j ≤ n ∧ i = .int .i64 j ∧ (∀ i (hi : i < p.length), i < j → bad p[i] = false) ∧ Ext w wr) (fun i _ => n - (intOf i).toNat)
  case atStart => exact ⟨0, by omega, rfl, fun i _ h => by omega, Keep.refl _ _⟩
  case round =>
    obtain ⟨j, hj, rfl, hfl, hEj⟩ := hrel
    have HF := hid hfl
    clear hfl
    by_cases hlt : j < n
    · have hjm : j < p.length := by rw [HN.out]; exact hlt
      obtain ⟨b1, o1, c0, rfl, _, _, hrd, hcell⟩ := (HA.out.ext ESt.ok hEj).at_ ESt.ok hjm
      have HC := hid (HBD.out (p[j]'hjm) (List.getElem_mem hjm))
      generalize hm : p[j]'hjm = m at *
      obtain rfl : c0 = [.bool m.list, .int .i64 m.i, .string m.key] := hrd
      have e0 := hcell 0 _ rfl
      have e1 := hcell 1 _ rfl
      have e2 := hcell 2 _ rfl
      have hz : ESt.size = 3 := rfl
      simp only [hz, Nat.add_zero] at e0 e1 e2
      have HM := hid hm
      clear hz hcell hm
      obtain ⟨q, hq⟩ : ∃ q : Bool, bad m = q := ⟨_, rfl⟩
      go_wp2_with fail
      refine (HC.out _ hEj).mono ?_
      rintro e w2 ⟨rfl, hE2⟩
      rw [hq]
      have HE := hid (hEj.ext hE2)
      have HP := hid hq
      clear hE2 hEj hq
      cases q with
      | true =>
        go_wp2
        go_ret
        refine ⟨.inr ⟨j, rfl, ?_⟩, HE.out⟩
        rw [List.any_eq_true]
        exact ⟨m, by rw [← HM.out]; exact List.getElem_mem hjm, HP.out⟩
      | false =>
        go_wp2
        go_roundw
        case rel =>
          refine ⟨j + 1, by omega, by go_num, fun i hi hij => ?_, HE.out⟩
          rcases Nat.lt_or_ge i j with h | h
          · exact HF.out i hi h
          · obtain rfl : i = j := by omega
            rw [HM.out]; exact HP.out
        case measure => simp [intOf]; omega
    · obtain rfl : j = n := by omega
      have HE := hid hEj
      clear hEj
      go_wp2
      go_ret
      refine ⟨.inl ⟨rfl, ?_⟩, HE.out⟩
      rw [List.any_eq_false]
      intro s hs
      obtain ⟨i, hi, rfl⟩ := List.getElem_of_mem hs
      have := HF.out i hi (by have := HN.out; omega)
      simp [this]

set_option maxHeartbeats 1600000 in
theorem contains_st (bad : St → Bool) (w : World) (S : BS) (v : Value) (p : List St) (h : Sl ESt w S v p) (hb : ∀ s ∈ p, BadIs w bad s) :
    Calls Tryd.prog 35 #[v, badF] w fun e w' => e = .returned (.bool (p.any bad)) ∧ Ext w w' := by
  have HI := hid (index_st bad w S v p h hb)
  obtain ⟨A, c, rfl, hlc, hcm⟩ := h.shape
  generalize p.any bad = r at *
  clear h hb
  go_enter Tryd.func35, Tryd.ntmps35
  go_wp2_with fail
  refine HI.out.mono ?_
  rintro e w2 ⟨⟨rfl, rfl⟩ | ⟨k, rfl, rfl⟩, hE⟩
  · have HE := hid hE
    clear hE
    go_wp2
    go_ret
    exact ⟨rfl, HE.out⟩
  · have HE := hid hE
    have hk : ¬ ((k : Int) < 0) := by omega
    have hk2 : decide ((0 : Int) ≤ k) = true := by simp
    clear hE
    go_wp2
    go_ret
    exact ⟨by first | rfl | simp, HE.out⟩

set_option maxHeartbeats 1600000 in
theorem path_sound (bad : St → Bool) (w : World) (S : BS) (v : Value) (p : List St) (h : Sl ESt w S v p) (hb : ∀ s ∈ p, BadIs w bad s) :
    Calls Tryd.prog 22 #[v] w fun e w' => e = .returned (.bool (decide (p.length ≤ 16) && !p.any bad)) ∧ Ext w w' := by
  have HI := hid (contains_st bad w S v p h hb)
  obtain ⟨A, c, rfl, hlc, hcm⟩ := h.shape
  generalize p.any bad = r at *
  clear h hb
  by_cases hp : p.length ≤ 16
  · have hpX : (p.length : Int) ≤ 16 := by omega
    have HD := hid (show decide (p.length ≤ 16) = true from by simpa using hp)
    go_enter Tryd.func22, Tryd.ntmps22
    go_wp2_with fail
    refine HI.out.mono ?_
    rintro e w2 ⟨rfl, hE⟩
    have HE := hid hE
    clear hE
    go_wp2
    go_ret
    exact ⟨by rw [HD.out]; cases r <;> rfl, HE.out⟩
  · have hpX : ¬ (p.length : Int) ≤ 16 := by omega
    have HD := hid (show decide (p.length ≤ 16) = false from by simpa using hp)
    go_enter Tryd.func22, Tryd.ntmps22
    go_wp2
    go_ret
    exact ⟨by first | rfl | (rw [HD.out]; rfl), Keep.refl _ _⟩

/-- A step of a list with a key is none. -/
theorem bad_key (w0 : World) (i : Int) : BadIs w0 (fun _ => true) ⟨true, i, ⟨#[97]⟩⟩ := by
  intro w1 _
  have hk : ((⟨#[97]⟩ : ByteArray).toList == (⟨#[]⟩ : ByteArray).toList) = false := by rw [ByteArray.toList_eq, ByteArray.toList_eq]; rfl
  have hE : Ext w1 (w1.alloc (.cells #[.bool true, .int .i64 i, .string ⟨#[97]⟩] TSTEP)) := (Keep.refl _ _).alloc _
  have HE := hid hE
  clear hE
  go_enter Tryd.func34, Tryd.ntmps34
  go_wp2
  go_ret
  exact ⟨rfl, HE.out⟩
end Go.Proofs.YtjdpljjbgggpiaaDoor
