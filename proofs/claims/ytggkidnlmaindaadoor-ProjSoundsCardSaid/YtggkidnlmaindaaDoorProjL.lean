/- proj.Within's closure at fields, slices.IndexFunc and slices.ContainsFunc over it. -/
import Derived.Test.YtggkidnlmaindaaDoorProjG
set_option linter.unusedSimpArgs false
set_option linter.unusedVariables false
namespace Go.Proofs.YtggkidnlmaindaaDoor
open Go.RowKit
set_option linter.unusedVariables false

abbrev clwF (b : Nat) : Value := .func (.func 47) #[] #[.pointer (some ⟨b, 0, none⟩)]

set_option maxHeartbeats 1600000 in
theorem with1_ok (w : World) (b : Nat) (fs : List ByteArray) (fv : Value) (S : BS) (key : ByteArray) (c1 c2 c3 c4 c5 : Value) (h : w.cell? ⟨b, 0, none⟩ = some fv) (hs : Sl EStr w S fv fs) :
    Calls Tryd.prog 47 #[.agg #[.string key, c1, c2, c3, c4, c5], .pointer (some ⟨b, 0, none⟩)] w fun e w' => e = .returned (.bool (!amongL fs key)) ∧ Ext w w' := by
  obtain ⟨A, c, rfl, hlc, hcm⟩ := hs.shape
  have hlt := lt_of_cell h
  have hE : Ext w (w.alloc (.cells #[.string key, c1, c2, c3, c4, c5] TFIELD)) := (Keep.refl _ _).alloc _
  have HS := hid (hs.ext EStr.ok hE)
  have HE := hid hE
  have hb := (hE.cell hlt id).trans h
  go_enter Tryd.func47, Tryd.ntmps47
  clear hs hE
  go_wp2_with fail
  refine (among_ok _ S _ fs key HS.out).mono ?_
  rintro e w2 ⟨rfl, hE2⟩
  have HE2 := hid (HE.out.ext hE2)
  clear hE2
  go_wp2
  go_ret
  exact ⟨rfl, HE2.out⟩

set_option maxHeartbeats 1600000 in
theorem windex_field (w : World) (S : BS) (v : Value) (o : List F) (b : Nat) (fs : List ByteArray) (fv : Value) (S2 : BS) (h : Sl EField w S v o) (hb : w.cell? ⟨b, 0, none⟩ = some fv) (hs : Sl EStr w S2 fv fs) :
    Calls Tryd.prog 57 #[v, clwF b] w fun e w' =>
      ((e = .returned (.int .i64 (-1)) ∧ Stay fs o o.length) ∨ ∃ k : Nat, e = .returned (.int .i64 (k : Int)) ∧ Stay fs o k ∧ GoesAt fs o k) ∧ Ext w w' := by
  obtain ⟨A, c, rfl, hlc, hcm⟩ := h.shape
  unfold maxLen at hcm
  have hblt := lt_of_cell hb
  have HA := hid h
  have HS := hid hs
  generalize hn : o.length = n at *
  have HN := hid hn
  clear h hn hs
  go_enter Tryd.func57, Tryd.ntmps57
  go_wp2
  go_loopw [8] (fun i wr => ∃ j : Nat, j ≤ n ∧ i = .int .i64 j ∧ Stay fs o j ∧ Ext w wr) (fun i _ => n - (intOf i).toNat)
  case atStart => exact ⟨0, by omega, rfl, fun i _ h => by omega, Keep.refl _ _⟩
  case round =>
    obtain ⟨j, hj, rfl, hfl, hEj⟩ := hrel
    have HF := hid hfl
    clear hfl
    by_cases hlt : j < n
    · have hjm : j < o.length := by rw [HN.out]; exact hlt
      obtain ⟨b1, o1, c0, rfl, _, _, hrd, hcell⟩ := (HA.out.ext EField.ok hEj).at_ EField.ok hjm
      generalize hm : o[j]'hjm = m at *
      obtain ⟨lv, ov, rfl, ⟨A1, d1, rfl⟩, ⟨A2, d2, rfl⟩, _⟩ := EField_cells hrd
      have e0 := hcell 0 _ rfl
      have e1 := hcell 1 _ rfl
      have e2 := hcell 2 _ rfl
      have e3 := hcell 3 _ rfl
      have e4 := hcell 4 _ rfl
      have e5 := hcell 5 _ rfl
      have hz : EField.size = 6 := rfl
      simp only [hz, Nat.add_zero] at e0 e1 e2 e3 e4 e5
      have hbj := (hEj.cell hblt id).trans hb
      have HM := hid hm
      have HSJ := hid (HS.out.ext EStr.ok hEj)
      clear hz hcell hrd hm
      obtain ⟨p, hp⟩ : ∃ p : Bool, goes fs m = p := ⟨_, rfl⟩
      go_wp2_with fail
      refine (with1_ok _ _ fs _ _ _ _ _ _ _ _ hbj HSJ.out).mono ?_
      rintro e w2 ⟨rfl, hE2⟩
      rw [show (!amongL fs m.key) = p from hp]
      have HE := hid (hEj.ext hE2)
      have HP := hid hp
      clear hE2 hEj hp
      cases p with
      | true =>
        go_wp2
        go_ret
        exact ⟨.inr ⟨j, rfl, HF.out, hjm, by rw [HM.out]; exact HP.out⟩, HE.out⟩
      | false =>
        go_wp2
        go_roundw
        case rel =>
          refine ⟨j + 1, by omega, by go_num, fun i hi hij => ?_, HE.out⟩
          rcases Nat.lt_or_ge i j with h | h
          · exact HF.out i hi h
          · obtain rfl : i = j := by omega
            rw [HM.out]; exact HP.out
        case measure => simp [intOf]; omega
    · obtain rfl : j = n := by omega
      have HE := hid hEj
      clear hEj
      go_wp2
      go_ret
      exact ⟨.inl ⟨rfl, HF.out⟩, HE.out⟩
set_option maxHeartbeats 1600000 in
theorem wcontains_ok (w : World) (S : BS) (v : Value) (o : List F) (b : Nat) (fs : List ByteArray) (fv : Value) (S2 : BS) (h : Sl EField w S v o) (hb : w.cell? ⟨b, 0, none⟩ = some fv) (hs : Sl EStr w S2 fv fs) :
    Calls Tryd.prog 46 #[v, clwF b] w fun e w' => e = .returned (.bool (o.any (goes fs))) ∧ Ext w w' := by
  have HI := hid (windex_field w S v o b fs fv S2 h hb hs)
  obtain ⟨A, c, rfl, hlc, hcm⟩ := h.shape
  clear h
  go_enter Tryd.func46, Tryd.ntmps46
  go_wp2_with fail
  refine HI.out.mono ?_
  rintro e w2 ⟨⟨rfl, hst⟩ | ⟨k, rfl, hst, hg⟩, hE⟩
  · have HE := hid hE
    have HR := hid (show o.any (goes fs) = false from by
      rw [List.any_eq_false]
      intro f hf
      obtain ⟨i, hi, rfl⟩ := List.getElem_of_mem hf
      simp [hst i hi hi])
    clear hE hst
    go_wp2
    go_ret
    exact ⟨by rw [HR.out]; rfl, HE.out⟩
  · have HE := hid hE
    have HR := hid (show o.any (goes fs) = true from by
      obtain ⟨hk, hg⟩ := hg
      exact List.any_eq_true.2 ⟨_, List.getElem_mem hk, hg⟩)
    have hk : ¬ ((k : Int) < 0) := by omega
    have hk2 : decide ((0 : Int) ≤ k) = true := by simp
    clear hE hst hg
    go_wp2
    go_ret
    exact ⟨by rw [HR.out]; first | rfl | simp, HE.out⟩
end Go.Proofs.YtggkidnlmaindaaDoor
