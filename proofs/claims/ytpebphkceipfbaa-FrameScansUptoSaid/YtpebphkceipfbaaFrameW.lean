/- The laws FrameWraps, FrameBends, FrameBack: their walks. -/
import Derived.Test.YtpebphkceipfbaaFrameK
import Derived.Test.YtpebphkceipfbaaFrameM
import Derived.Test.YtpebphkceipfbaaLawAid
set_option linter.unusedSimpArgs false
set_option linter.unusedVariables false
namespace Go.Proofs.Ytpebphkceipfbaa
open Go.RowKit
set_option linter.unusedVariables false

theorem textOf_inj {a b : List UInt8} (h : textOf a = textOf b) : a = b := by
  unfold textOf at h
  injection h with h
  have := congrArg Array.toList h
  simpa using this

set_option maxHeartbeats 1600000 in
theorem wraps_walk (v : Value) (l : List UInt8) (w : World) (hb : Bytes w w.heap.size v l) :
    Calls Try.prog 3 #[v] w fun e w' => e = .returned (.bool true) ∧ Below w.heap.size w w' := by
  have hv := bytesS_of hb
  clear hb
  obtain ⟨A, c, rfl, h1, h2⟩ := hv.shape
  unfold maxLen at h2
  have HV := hid hv
  clear hv
  by_cases hl : 1500 < l.length
  · go_enter Try.func3, Try.ntmps3
    go_wp2_with fail
    refine (known_any _).mono ?_
    rintro e w1 ⟨rfl, hE1⟩
    have HE := hid hE1
    clear hE1
    go_wp2
    go_ret
    exact ⟨rfl, HE.out.toBelow⟩
  · go_enter Try.func3, Try.ntmps3
    go_wp2_with fail
    refine (known_any _).mono ?_
    rintro e w1 ⟨rfl, hE1⟩
    have HE := hid hE1
    have HV1 := hid (HV.out.ext EU8.ok hE1)
    clear hE1
    go_wp2_with fail
    refine (wrap_ok _ _ _ _ HV1.out (by omega)).mono ?_
    rintro e w2 ⟨v2, rfl, ho2, hE2⟩
    obtain ⟨A2, c2, rfl, _⟩ := ho2.shape
    rw [frm_length] at ho2 ⊢
    have HE2 := hid (HE.out.ext hE2)
    have HO2 := hid (own_new ho2)
    have HV2 := hid (HV1.out.ext EU8.ok hE2)
    clear ho2 hE2
    go_wp2_with fail
    refine (ref_wrap_ok _ _ _ _ HV2.out (by omega)).mono ?_
    rintro e w3 ⟨v3, rfl, ho3, hE3⟩
    obtain ⟨A3, c3, rfl, _⟩ := ho3.shape
    rw [frm_length] at ho3 ⊢
    have HE3 := hid (HE2.out.ext hE3)
    have hc3 := convert_bytesS (own_new ho3)
    have hc2 := convert_bytesS (HO2.out.ext EU8.ok hE3)
    clear ho3 hE3
    generalize textOf (frm l) = tx at *
    go_wp2
    go_ret
    exact ⟨by simp, HE3.out.toBelow⟩

set_option maxHeartbeats 1600000 in
theorem bends_walk (v : Value) (l : List UInt8) (at_ x : Int) (w : World) (hb : Bytes w w.heap.size v l) (hi : (Lit.int .i64 at_).wf = true) (hj : (Lit.int .u8 x).wf = true) :
    Calls Try.prog 4 #[v, .int .i64 at_, .int .u8 x] w fun e w' => e = .returned (.bool true) ∧ Below w.heap.size w w' := by
  have hv := bytesS_of hb
  clear hb
  obtain ⟨x0, rfl⟩ := u8_of_wf hj
  obtain ⟨A, c, rfl, h1, h2⟩ := hv.shape
  unfold maxLen at h2
  have HV := hid hv
  clear hv hi hj
  by_cases hl : 1500 < l.length ∨ x0 = 0
  · have hx : 1500 < l.length ∨ (¬ 1500 < l.length ∧ ((x0.toNat : Int) == 0) = true) := by
      rcases Nat.lt_or_ge 1500 l.length with h | h
      · exact .inl h
      · refine .inr ⟨by omega, ?_⟩
        rcases hl with h' | h'
        · omega
        · subst h'; rfl
    rcases hx with hx | ⟨hx, hx0⟩
    all_goals
      go_enter Try.func4, Try.ntmps4
      go_wp2_with fail
      refine (known_any _).mono ?_
      rintro e w1 ⟨rfl, hE1⟩
      have HE := hid hE1
      clear hE1
      go_wp2
      go_ret
      exact ⟨rfl, HE.out.toBelow⟩
  have hl1 : ¬ 1500 < l.length := fun h => hl (.inl h)
  have hx0 : x0 ≠ 0 := fun h => hl (.inr h)
  have hx1 : ((x0.toNat : Int) == 0) = false := by
    simp only [beq_eq_false_iff_ne, ne_eq]
    intro h
    apply hx0
    apply UInt8.toNat.inj
    simp; omega
  clear hl
  obtain ⟨i0, hmax⟩ := run_max0 at_
  obtain ⟨k, hk⟩ : ∃ k, k = i0 % (4 + l.length) := ⟨_, rfl⟩
  have hkl : k < 4 + l.length := by rw [hk]; exact Nat.mod_lt _ (by omega)
  have hrem : ((i0 : Int) % (8 + (l.length : Int) - 4)) = (k : Int) := by
    rw [show (8 + (l.length : Int) - 4) = ((4 + l.length : Nat) : Int) from by omega, hk]; exact (Int.natCast_emod _ _).symm
  have HX := hid hx0
  clear hk hx0
  go_enter Try.func4, Try.ntmps4
  go_wp2_with fail
  refine (known_any _).mono ?_
  rintro e w1 ⟨rfl, hE1⟩
  have HE := hid hE1
  have HV1 := hid (HV.out.ext EU8.ok hE1)
  clear hE1
  go_wp2_with fail
  refine (wrap_ok _ _ _ _ HV1.out (by omega)).mono ?_
  rintro e w2 ⟨v2, rfl, ho2, hE2⟩
  have hkf : 4 + k < (frm l).length := by rw [frm_length]; omega
  obtain ⟨g, cap, rfl, hg1, hg2, hcap, hcm, hcell, hfz, hset⟩ := own_u8_at ho2 hkf
  have hxor := xor_u8 ((frm l)[4 + k]) x0
  have HSET := hid (hset ((frm l)[4 + k] ^^^ x0))
  have HT := hid (show (frm l).set (4 + k) ((frm l)[4 + k] ^^^ x0) = turned (frm l) (4 + k) x0 from by
    unfold turned
    apply List.ext_getElem?
    intro i
    rw [List.getElem?_set, List.getElem?_modify]
    by_cases h : 4 + k = i
    · subst h; simp [hkf]
    · simp [h])
  generalize (frm l)[4 + k] = y at *
  generalize y ^^^ x0 = z at *
  rw [HT.out, frm_length] at HSET
  have HE2 := hid (HE.out.ext hE2)
  rw [frm_length] at ho2 hcap ⊢
  clear ho2 hE2 hset
  unfold maxLen at hcm
  go_wp2_with fail
  have HE3 := hid (HE2.out.trans (Keep.set1 (b := g) (Keep.refl _ w2) (4 + k) (U8 z)) (fun b hb e => by have := HE.out.size; omega))
  refine (open_any _ _ _ _ (own_new HSET.out)).mono ?_
  rintro e w4 h
  unfold OpenIs at h
  rw [bends l (4 + k) x0 (by omega) (by omega) (by omega) HX.out] at h
  obtain ⟨rfl, hE4⟩ := h
  have HE4 := hid (HE3.out.ext hE4)
  clear hE4
  go_wp2
  go_ret
  exact ⟨rfl, HE4.out.toBelow⟩

set_option maxHeartbeats 1600000 in
theorem back_walk (v : Value) (l : List UInt8) (v' : Value) (m : List UInt8) (w : World) (hb : Bytes w w.heap.size v l) (hb' : Bytes w w.heap.size v' m) :
    Calls Try.prog 5 #[v, v'] w fun e w' => e = .returned (.bool true) ∧ Below w.heap.size w w' := by
  have hv := bytesS_of hb
  have hv' := bytesS_of hb'
  clear hb hb'
  obtain ⟨A, c, rfl, h1, h2⟩ := hv.shape
  obtain ⟨A', c', rfl, h1', h2'⟩ := hv'.shape
  unfold maxLen at h2 h2'
  have HV := hid hv
  have HM := hid hv'
  clear hv hv'
  by_cases hl : 1500 < l.length ∨ 1500 < m.length
  · have hx : 1500 < l.length ∨ (¬ 1500 < l.length ∧ 1500 < m.length) := by omega
    clear hl
    rcases hx with hx | ⟨hx, hx0⟩
    all_goals
      go_enter Try.func5, Try.ntmps5
      go_wp2_with fail
      refine (known_any _).mono ?_
      rintro e w1 ⟨rfl, hE1⟩
      have HE := hid hE1
      clear hE1
      go_wp2
      go_ret
      exact ⟨rfl, HE.out.toBelow⟩
  have hl1 : ¬ 1500 < l.length := fun h => hl (.inl h)
  have hl2 : ¬ 1500 < m.length := fun h => hl (.inr h)
  clear hl
  go_enter Try.func5, Try.ntmps5
  go_wp2_with fail
  refine (known_any _).mono ?_
  rintro e w1 ⟨rfl, hE1⟩
  have HE := hid hE1
  have HV1 := hid (HV.out.ext EU8.ok hE1)
  clear hE1
  go_wp2_with fail
  refine (wrap_ok _ _ _ _ HV1.out (by omega)).mono ?_
  rintro e w2 ⟨v2, rfl, ho2, hE2⟩
  obtain ⟨A2, c2, rfl, _⟩ := ho2.shape
  rw [frm_length] at ho2 ⊢
  have HE2 := hid (HE.out.ext hE2)
  have HO2 := hid (own_new ho2)
  clear ho2 hE2 HE HV1
  go_wp2_with (at_builtin; refine wpList_append_bytes rfl (.tmp 30) (.tmp 31) ty_u8 rfl rfl rfl (Own.nil _ w.heap.size _ (fun _ => False)) HO2.out ?c1 ?c2 ?c3 ?_)
  case c1 => intro g hg; cases hg
  case c2 => rw [frm_length]; simp; omega
  case c3 => exact HE2.out.size
  intro A3 c3 w3 ho3 hc3 hc3' hk3
  have HE3 := hid (show Ext w w3 from HE2.out.trans hk3 fun k _ e => by cases e)
  have HM3 := hid (HM.out.ext EU8.ok HE3.out)
  have HO3 := hid ho3
  rw [frm_length] at hc3 HO3 ⊢
  clear ho3 hk3 HE2 HO2
  go_wp2_with (at_builtin; refine wpList_append_bytes rfl (.tmp 33) (.tmp 34) ty_u8 rfl rfl rfl HO3.out HM3.out ?d1 ?d2 ?d3 ?_)
  case d1 => intro g hg h; have := (HO3.out.lt hg).1; omega
  case d2 => rw [frm_length]; omega
  case d3 => exact HE3.out.size
  intro A4 c4 w4 ho4 hc4 hc4' hk4
  have HE4 := hid (HE3.out.trans hk4 fun k hk e => by have := (HO3.out.lt e).1; omega)
  rw [frm_length] at hc4 ho4 ⊢
  have HO4 := hid ho4
  clear ho4 hk4 HE3 HO3 HM3
  unfold maxLen at hc4'
  go_wp2_with fail
  refine (open_any _ _ _ _ (own_new HO4.out)).mono ?_
  rintro e w5 h
  unfold OpenIs at h
  rw [openL_frm l m (by omega)] at h
  obtain ⟨v5, rfl, hv5, hE5⟩ := h
  obtain ⟨A5, c5, rfl, _⟩ := hv5.shape
  have HE5 := hid (HE4.out.ext hE5)
  have HO5 := hid (HO4.out.ext EU8.ok hE5)
  have HG := hid (fun g (e : (Value.slice A4 (8 + l.length + m.length) c4).ownBlock = some g) => HO4.out.lt e)
  have HV5 := hid hv5
  clear hv5 hE5 HO4 HE4
  have hlen : (frm l ++ m).length = 8 + l.length + m.length := by simp [frm_length]
  generalize frm l ++ m = all at *
  have HL := hid hlen
  clear hlen
  go_wp2_with fail
  go_loopw [11] (fun i wr => ∃ (k : Nat) (L : List UInt8), k ≤ 8 + l.length + m.length ∧ i = .int .i64 k ∧ L.length = 8 + l.length + m.length ∧ Own EU8 wr w.heap.size 5 (fun _ => False) (.slice A4 (8 + l.length + m.length) c4) L ∧ Keep (fun k => (Value.slice A4 (8 + l.length + m.length) c4).ownBlock = some k) w5 wr) (fun i _ => 8 + l.length + m.length - (intOf i).toNat)
  case atStart => exact ⟨0, all, by omega, rfl, HL.out, HO5.out, Keep.refl _ _⟩
  case round =>
    obtain ⟨k, L, hk, rfl, hL, ho, hkp⟩ := hrel
    by_cases hlt : k < 8 + l.length + m.length
    · obtain ⟨g, cap, e, hg1, hg2, hcap, hcm, hcell, hfz, hset⟩ := own_u8_at ho (k := k) (by omega)
      injection e with e1 _ e3
      subst e1 e3
      obtain ⟨y, hy⟩ : ∃ y, y = L[k] := ⟨_, rfl⟩
      rw [← hy] at hcell
      have hxor := xor_u8 y 255
      rw [show (((255 : UInt8).toNat : Nat) : Int) = 255 from rfl] at hxor
      generalize y ^^^ 255 = z at *
      have HSET := hid (hset z)
      have HKP := hid hkp
      have HLL := hid hL
      clear hset hkp hy ho hL
      go_wp2
      exact ⟨⟨k + 1, L.set k z, by omega, by go_num, by rw [List.length_set]; exact HLL.out, HSET.out, HKP.out.trans ((Keep.refl _ _).set1 k (U8 z)) (fun b hb e => by subst e; rfl)⟩, by simp [intOf]; omega⟩
    · obtain rfl : k = 8 + l.length + m.length := by omega
      have HKP := hid hkp
      have hE6 : Ext w wr := HE5.out.trans hkp fun k hk e => by have := HG.out k e; omega
      have HE6 := hid hE6
      have hc1 := convert_bytesS (HV5.out.keep EU8.ok hkp fun k h e => by have := HG.out k e; omega)
      have hc2 := convert_bytesS ((HV.out.ext EU8.ok HE5.out).keep EU8.ok hkp fun k h e => by have := HG.out k e; omega)
      generalize textOf l = tx at *
      clear hkp ho hE6
      go_wp2
      go_ret
      exact ⟨by simp, HE6.out.toBelow⟩
end Go.Proofs.Ytpebphkceipfbaa
