/- Sound and Begins of any paths are what the chapter says: the walk. -/
import Derived.Test.YtjdpljjbgggpiaaDoorPathBeg
import Derived.Test.YtjdpljjbgggpiaaDoorPathSnd
import Derived.Test.YtjdpljjbgggpiaaDoorLawHeavy3
import Derived.Test.YtjdpljjbgggpiaaDoorLawKnown3
import Derived.Test.YtjdpljjbgggpiaaDoorLawAid0
import Derived.Test.YtjdpljjbgggpiaaDoorVld
set_option linter.unusedSimpArgs false
set_option linter.unusedVariables false
namespace Go.Proofs.YtjdpljjbgggpiaaDoor
open Go.RowKit
set_option linter.unusedVariables false

/-- A step that is none. -/
def badS (s : St) : Bool := if s.list then (!s.key.toList.isEmpty || decide (s.i < 0)) else (!decide (s.i = 0) || !Lib.validD s.key.data.toList)
def SmallS (s : St) : Prop := s.key.size ≤ 9223372036854775807
theorem key_nil {k : ByteArray} (h : k.toList = []) : k = ⟨#[]⟩ := key_eq (by rw [h, ByteArray.toList_eq])

set_option maxHeartbeats 1600000 in
theorem bad_ok (w0 : World) (hv : ValAny w0) (s : St) (hs : SmallS s) : BadIs w0 badS s := by
  intro w1 he
  have hE : Ext w1 (w1.alloc (.cells #[.bool s.list, .int .i64 s.i, .string s.key] TSTEP)) := (Keep.refl _ _).alloc _
  have HE := hid hE
  have HC := hid (hv s.key hs _ (he.ext hE))
  clear hE hv he hs
  obtain ⟨l, i, k⟩ := s
  simp only at HC HE
  cases l with
  | true =>
    by_cases hk : k.toList = []
    · obtain rfl := key_nil hk
      have hk1 : ((⟨#[]⟩ : ByteArray).toList == (⟨#[]⟩ : ByteArray).toList) = true := by simp
      by_cases hi : i < 0
      · have HB := hid (show badS ⟨true, i, ⟨#[]⟩⟩ = true from by simp [badS, hi])
        clear hk
        go_enter Tryd.func34, Tryd.ntmps34
        go_wp2
        go_ret
        exact ⟨by rw [HB.out]; first | rfl | simp, HE.out⟩
      · have HB := hid (show badS ⟨true, i, ⟨#[]⟩⟩ = false from by simp [badS, hi, ByteArray.toList_eq])
        clear hk
        go_enter Tryd.func34, Tryd.ntmps34
        go_wp2
        go_ret
        exact ⟨by rw [HB.out]; first | rfl | simp, HE.out⟩
    · have hk1 : (k.toList == (⟨#[]⟩ : ByteArray).toList) = false := by rw [ByteArray.toList_eq (bs := ⟨#[]⟩)]; simpa using hk
      have HB := hid (show badS ⟨true, i, k⟩ = true from by simp [badS]; exact .inl (by simpa using hk))
      go_enter Tryd.func34, Tryd.ntmps34
      go_wp2
      go_ret
      exact ⟨by rw [HB.out]; first | rfl | simp, HE.out⟩
  | false =>
    by_cases hi : i = 0
    · subst hi
      have HB := hid (show badS ⟨false, 0, k⟩ = !Lib.validD k.data.toList from by simp [badS])
      generalize Lib.validD k.data.toList = r at *
      go_enter Tryd.func34, Tryd.ntmps34
      go_wp2_with fail
      refine HC.out.mono ?_
      rintro e w2 ⟨rfl, hE2⟩
      have HE2 := hid hE2
      clear hE2
      go_wp2
      go_ret
      exact ⟨by rw [HB.out]; first | rfl | simp, HE.out.ext HE2.out⟩
    · have hiX : (i != 0) = true := by simpa using hi
      have HB := hid (show badS ⟨false, i, k⟩ = true from by simp [badS, hi])
      clear hi
      go_enter Tryd.func34, Tryd.ntmps34
      go_wp2
      go_ret
      exact ⟨by rw [HB.out]; first | rfl | simp, HE.out⟩

set_option maxHeartbeats 3200000 in
theorem rsnd_ok (w0 w : World) (hv : ValAny w0) (h0 : Ext w0 w) (S : BS) (v : Value) (p : List St) (h : Sl ESt w S v p) (hs : ∀ s ∈ p, SmallS s) :
    Calls Tryd.prog 23 #[v] w fun e w' => e = .returned (.bool (decide (p.length ≤ 16) && !p.any badS)) ∧ Ext w w' := by
  obtain ⟨A, c, rfl, hlc, hcm⟩ := h.shape
  unfold maxLen at hcm
  have HA := hid h
  have HV := hid hv
  have H0 := hid h0
  have HS := hid hs
  generalize hn : p.length = n at *
  have HN := hid hn
  clear h hv h0 hs hn
  go_enter Tryd.func23, Tryd.ntmps23
  go_wp2
  go_loopw [3] (fun i wr => ∃ j : Nat, j ≤ n ∧ i = .int .i64 j ∧ (∀ i (hi : i < p.length), i < j → badS p[i] = false) ∧ Ext w wr) (fun i _ => n - (intOf i).toNat)
  case atStart => exact ⟨0, by omega, rfl, fun i _ h => by omega, Keep.refl _ _⟩
  case round =>
    obtain ⟨j, hj, rfl, hfl, hEj⟩ := hrel
    have HF := hid hfl
    have HEJ := hid hEj
    clear hfl hEj
    by_cases hlt : j < n
    · have hjm : j < p.length := by rw [HN.out]; exact hlt
      obtain ⟨b1, o1, c0, rfl, _, _, hrd, hcell⟩ := (HA.out.ext ESt.ok HEJ.out).at_ ESt.ok hjm
      have HC := hid (HV.out _ (HS.out (p[j]'hjm) (List.getElem_mem hjm)) _ (H0.out.ext HEJ.out))
      have HMM := hid (show p[j]'hjm ∈ p from List.getElem_mem hjm)
      generalize hm : p[j]'hjm = m at *
      obtain rfl : c0 = [.bool m.list, .int .i64 m.i, .string m.key] := hrd
      have e0 := hcell 0 _ rfl
      have e1 := hcell 1 _ rfl
      have e2 := hcell 2 _ rfl
      have hz : ESt.size = 3 := rfl
      simp only [hz, Nat.add_zero] at e0 e1 e2
      have HM := hid hm
      clear hz hcell hm
      have HNX := hid (show badS m = false → ∀ i (hi : i < p.length), i < j + 1 → badS p[i] = false from fun hb i hi hij => by
        rcases Nat.lt_or_ge i j with h | h
        · exact HF.out i hi h
        · obtain rfl : i = j := by omega
          rw [HM.out]; exact hb)
      have HBA := hid (show badS m = true → (decide (n ≤ 16) && !p.any badS) = false from fun hb => by
        have : p.any badS = true := List.any_eq_true.2 ⟨m, HMM.out, hb⟩
        rw [this]; simp)
      clear HF HM HMM
      obtain ⟨l, i, k⟩ := m
      simp only at *
      cases l with
      | true =>
        by_cases hk : k.toList = []
        · obtain rfl := key_nil hk
          have hk1 : ((⟨#[]⟩ : ByteArray).toList == (⟨#[]⟩ : ByteArray).toList) = true := by simp
          clear hk
          by_cases hi : i < 0
          · have HB := hid (HBA.out (show badS ⟨true, i, ⟨#[]⟩⟩ = true from by simp [badS, hi]))
            go_wp2
            go_ret
            exact ⟨by rw [HB.out]; first | rfl | simp, HEJ.out⟩
          · have HB := hid (HNX.out (show badS ⟨true, i, ⟨#[]⟩⟩ = false from by simp [badS, hi, ByteArray.toList_eq]))
            have hvd : Lib.validD (⟨#[]⟩ : ByteArray).data.toList = true := rfl
            rw [hvd] at HC
            clear hvd
            go_wp2_with fail
            refine HC.out.mono ?_
            rintro e w2 ⟨rfl, hE2⟩
            have HE2 := hid (HEJ.out.ext hE2)
            clear hE2 e0 e1 e2
            go_wp2
            go_roundw
            case rel => exact ⟨j + 1, by omega, by go_num, HB.out, HE2.out⟩
            case measure => simp [intOf]; omega
        · have hk1 : (k.toList == (⟨#[]⟩ : ByteArray).toList) = false := by rw [ByteArray.toList_eq (bs := ⟨#[]⟩)]; simpa using hk
          have HB := hid (HBA.out (show badS ⟨true, i, k⟩ = true from by simp [badS]; exact .inl (by simpa using hk)))
          go_wp2
          go_ret
          exact ⟨by rw [HB.out]; first | rfl | simp, HEJ.out⟩
      | false =>
        by_cases hi : i = 0
        · subst hi
          cases hr : Lib.validD k.data.toList with
          | true =>
            have HB := hid (HNX.out (show badS ⟨false, 0, k⟩ = false from by simp [badS, hr]))
            rw [hr] at HC
            clear hr
            go_wp2_with fail
            refine HC.out.mono ?_
            rintro e w2 ⟨rfl, hE2⟩
            have HE2 := hid (HEJ.out.ext hE2)
            clear hE2 e0 e1 e2
            go_wp2
            go_roundw
            case rel => exact ⟨j + 1, by omega, by go_num, HB.out, HE2.out⟩
            case measure => simp [intOf]; omega
          | false =>
            have HB := hid (HBA.out (show badS ⟨false, 0, k⟩ = true from by simp [badS, hr]))
            rw [hr] at HC
            clear hr
            go_wp2_with fail
            refine HC.out.mono ?_
            rintro e w2 ⟨rfl, hE2⟩
            have HE2 := hid (HEJ.out.ext hE2)
            clear hE2 e0 e1 e2
            go_wp2
            go_ret
            exact ⟨by rw [HB.out]; first | rfl | simp, HE2.out⟩
        · have hiX : (i != 0) = true := by simpa using hi
          have HB := hid (HBA.out (show badS ⟨false, i, k⟩ = true from by simp [badS, hi]))
          clear hi
          go_wp2
          go_ret
          exact ⟨by rw [HB.out]; first | rfl | simp, HEJ.out⟩
    · obtain rfl : j = n := by omega
      have hany : p.any badS = false := by
        rw [List.any_eq_false]
        intro s hs
        obtain ⟨i, hi, rfl⟩ := List.getElem_of_mem hs
        have := HF.out i hi (by have := HN.out; omega)
        simp [this]
      have HAN := hid hany
      clear hany HF
      by_cases hj16 : j ≤ 16
      · have hX : (j : Int) ≤ 16 := by omega
        have HD := hid (show decide (j ≤ 16) = true from by simpa using hj16)
        clear hj16
        go_wp2
        go_ret
        exact ⟨by rw [HD.out, HAN.out]; rfl, HEJ.out⟩
      · have hX : ¬ (j : Int) ≤ 16 := by omega
        have HD := hid (show decide (j ≤ 16) = false from by simpa using hj16)
        clear hj16
        go_wp2
        go_ret
        exact ⟨by rw [HD.out]; first | rfl | simp, HEJ.out⟩
end Go.Proofs.YtjdpljjbgggpiaaDoor
