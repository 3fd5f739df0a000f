/- The law's does, at any call; its Same, at both disks. -/
import Derived.Test.YtikophoopapngaaRDV
import Derived.Test.YtikophoopapngaaDiskP
set_option linter.unusedSimpArgs false
set_option linter.unusedVariables false
namespace Go.Proofs.Ytikophoopapngaa
open Go.RowKit
set_option linter.unusedVariables false

theorem does_ok (w0 w : World) (B1 B2 : BS) (d r : Nat) (cs : List DC) (s : DSt) (k : UInt8) (nm : ByteArray) (bv : Value) (z : Int) (b : List UInt8) (S2 : BS) (hbs : BytesS w S2 bv b) (hS2 : ∀ k, S2 k → k < w0.heap.size) (HW : (Lit.int .i64 z).wf = true) (HZ : nm.size ≤ maxLen) (h : Twin w0 w B1 B2 d r cs s) :
    Calls Try.prog 20 #[.pointer (some ⟨d, 0, none⟩), .pointer (some ⟨r, 0, none⟩), .agg #[U8 k, .string nm, bv, .int .i64 z]] w (DoesIs w0 d r (doesR cs s k.toNat nm.data.toList b z)) := by
  obtain ⟨A, c, rfl, _, _⟩ := hbs.shape
  unfold doesR
  by_cases h4 : k.toNat % 12 = 4
  · rw [if_pos (.inl h4)]; exact does_sync w0 w B1 B2 d r cs s k nm A _ c z h4 HZ h
  by_cases h5 : k.toNat % 12 = 5
  · rw [if_pos (.inr h5)]; exact does_sync5 w0 w B1 B2 d r cs s k nm A _ c z h5 HZ h
  rw [if_neg (fun h => h.elim h4 h5)]
  by_cases h6 : k.toNat % 12 = 6
  · rw [if_pos h6]; exact does_cut w0 w B1 B2 d r cs s k nm A _ c z h6 HZ h
  rw [if_neg h6]
  by_cases h7 : k.toNat % 12 = 7
  · rw [if_pos h7]; exact does_drop w0 w B1 B2 d r cs s k nm A _ c z h7 HZ h
  rw [if_neg h7]
  by_cases h8 : k.toNat % 12 = 8
  · rw [if_pos h8]; exact does_read w0 w B1 B2 d r cs s k nm A _ c z h8 HZ h
  rw [if_neg h8]
  by_cases h9 : k.toNat % 12 = 9
  · rw [if_pos h9]; exact does_crash w0 w B1 B2 d r cs s k nm A _ c z h9 h
  rw [if_neg h9]
  by_cases h10 : k.toNat % 12 = 10
  · rw [if_pos h10]; exact does_full w0 w B1 B2 d r cs s k nm A _ c z h10 h
  rw [if_neg h10]
  by_cases h11 : k.toNat % 12 = 11
  · rw [if_pos h11]; exact does_halt w0 w B1 B2 d r cs s k nm A _ c z h11 HW h
  rw [if_neg h11]
  exact does_append w0 w B1 B2 d r cs s k nm A _ c z b S2 hbs hS2 (k.toNat % 12) (by omega) rfl HZ h

def SameOk (w0 : World) (d r : Nat) (cs : List DC) (s : DSt) (e : Ending) (w' : World) : Prop := e = .returned (.int .i64 1) ∧ ∃ B1 B2, Twin w0 w' B1 B2 d r cs s
set_option maxRecDepth 20000 in
set_option maxHeartbeats 3200000 in
theorem same13_ok (hN : NamesAll) (w0 w : World) (B1 B2 : BS) (d r : Nat) (cs : List DC) (s : DSt) (h : Twin w0 w B1 B2 d r cs s) :
    Calls Try.prog 21 #[.pointer (some ⟨d, 0, none⟩), .pointer (some ⟨r, 0, none⟩)] w (SameOk w0 d r cs s) := by
  have HNA := hid hN
  have HT := hid h
  have HNM := hid (h.good.1.names)
  have hlen : cs.length ≤ 64 := h.disk.is.1.many
  clear hN h
  go_enter Try.func21, Try.ntmps21
  go_wp2_with fail
  refine (HNA.out _ _ _ _ _ HT.out.disk.is).mono ?_
  rintro e w1 ⟨v1, rfl, hv1, hE⟩
  rw [HNM.out] at hv1
  replace HT := hid (HT.out.more hE)
  clear hE
  have HV1 := hid hv1
  clear hv1
  go_wp2_with fail
  refine (ref_names _ B2 r cs s hlen HT.out.ref).mono ?_
  rintro e w2 ⟨v2, rfl, hv2, hE⟩
  replace HT := hid (HT.out.more hE)
  replace HV1 := hid (HV1.out.ext EStr.ok hE)
  have HV2 := hid hv2
  clear hE hv2
  go_wp2_with fail
  refine (texts_ok _ _ _ _ _ _ _ HV1.out HV2.out).mono ?_
  rintro e w3 ⟨rfl, hE⟩
  have hdt : decide (texC cs = texC cs) = true := by simp
  rw [hdt]
  replace HT := hid (HT.out.more hE)
  replace HV1 := hid (HV1.out.ext EStr.ok hE)
  clear hE HV2 hdt
  go_wp2_with fail
  refine (disk_used' _ _ _ _ _ HT.out.disk.is).mono ?_
  rintro e w4 ⟨rfl, hE⟩
  replace HT := hid (HT.out.more hE)
  replace HV1 := hid (HV1.out.ext EStr.ok hE)
  clear hE
  go_wp2_with fail
  refine (ref_used _ _ _ _ _ (Nat.le_trans HT.out.disk.is.1.used HT.out.disk.is.1.room) HT.out.ref).mono ?_
  rintro e w5 ⟨rfl, rfl⟩
  have hun : ((usedC cs : Int) != (usedC cs : Int)) = false := by simp
  go_wp2_with fail
  refine (disk_halted _ _ _ _ _ HT.out.disk.is).mono ?_
  rintro e w6 ⟨rfl, rfl⟩
  go_wp2_with fail
  refine (ref_halted _ _ _ _ _ HT.out.ref).mono ?_
  rintro e w7 ⟨rfl, rfl⟩
  have hbb : ((s.left == 0) != (s.left == 0)) = false := by simp
  obtain ⟨A1, c1, rfl, hc1, hm1⟩ := HV1.out.shape
  have hlt : (texC cs).length = cs.length := by unfold texC; simp
  unfold maxLen at hm1
  rw [hlt] at hc1 HV1 ⊢
  obtain ⟨m, hm⟩ : ∃ m, cs.length = m := ⟨_, rfl⟩
  rw [hm] at hc1 hlen HV1 ⊢
  have HM := hid hm
  clear hm hlt
  clear hun hbb
  obtain ⟨W, hW⟩ : ∃ W, w4 = W := ⟨_, rfl⟩
  rw [hW] at HT HV1 ⊢
  clear hW
  go_wp2_with fail
  go_loopw [6] (fun y wr => ∃ (i : Nat), i ≤ m ∧ y = .int .i64 i ∧ Ext W wr) (fun y _ => m - (intOf y).toNat)
  case atStart => exact ⟨0, by omega, rfl, Keep.refl _ _⟩
  case round =>
    obtain ⟨i, hi, rfl, hE⟩ := hrel
    have HE := hid hE
    clear hE
    by_cases hlt : i < m
    · have hil : i < (texC cs).length := by unfold texC; rw [List.length_map, HM.out]; exact hlt
      have hic : i < cs.length := by rw [HM.out]; exact hlt
      obtain ⟨b, off, c0, rfl, hbw, _, hr1, hc⟩ := (HV1.out.ext EStr.ok HE.out).at_ EStr.ok hil
      have hr1 : c0 = [.string (texC cs)[i]] := hr1
      subst hr1
      have p1 := hc 0 _ rfl
      have ez : EStr.size = 1 := rfl
      have hnm : (texC cs)[i] = textOf cs[i].name := by simp [texC]
      rw [hnm] at p1
      simp only [ez, Nat.add_zero, Nat.mul_one] at p1
      have HNL := hid (HT.out.disk.is.1.names _ (List.getElem_mem hic))
      generalize cs[i].name = nm at *
      have hX : (i : Int) < m := by omega
      have HTI := hid (HT.out.more HE.out)
      clear hr1 hc ez hnm hil hic
      have HZ : (textOf nm).size ≤ maxLen := by rw [textOf_size]; have := HNL.out.2; unfold maxLen; omega
      have HHZ := hid HZ
      clear HZ
      go_wp2_with fail
      obtain ⟨code, hcode⟩ : ∃ code, (readR cs (textOf nm).data.toList).1 = code := ⟨_, rfl⟩
      obtain ⟨x, hx⟩ : ∃ x, (readR cs (textOf nm).data.toList).2 = x := ⟨_, rfl⟩
      have hcd : code = 0 ∨ code = 131 := by rw [← hcode]; unfold readR; split <;> simp
      have HCD := hid hcd
      have HC0 := hid hcode
      have HX0 := hid hx
      clear hcd hcode hx
      refine (disk_read _ B1 d cs s (textOf nm) HTI.out.disk.is HHZ.out).mono ?_
      rintro e w8 ⟨A8, c8, rfl, hb1, hE1⟩
      rw [HX0.out] at hb1 ⊢
      rw [HC0.out]
      replace p1 := (hE1.cell (lt_of_cell p1) id).trans p1
      have HT1 := hid (HTI.out.more hE1)
      have HB1 := hid hb1
      replace HE := hid (HE.out.ext hE1)
      clear hb1 hE1
      go_wp2_with fail
      refine (ref_read _ B2 r cs s (textOf nm) (Nat.le_trans HT.out.disk.is.1.used HT.out.disk.is.1.room) HT1.out.ref).mono ?_
      rintro e w9 ⟨A9, c9, rfl, hb2, hE2⟩
      rw [HX0.out] at hb2 ⊢
      rw [HC0.out]
      replace HE := hid (HE.out.ext hE2)
      have hv1 := convert_bytesS (HB1.out.ext EU8.ok hE2)
      have hv2 := convert_bytesS hb2
      have hbe : ((textOf x).toList != (textOf x).toList) = false := by simp
      have hwc : IntKind.i64.wrap code = code := by rcases HCD.out with h | h <;> rw [h] <;> rfl
      have hce : (code != code) = false := by simp
      clear hb2 hE2 p1
      have HTT := hid HT.out
      go_wp2
      exact ⟨⟨i + 1, by omega, by go_num, HE.out⟩, by simp [intOf]; omega⟩
    · obtain rfl : i = m := by omega
      have HTZ := hid (HT.out.more HE.out)
      have hX : ¬ (i : Int) < i := by omega
      go_wp2
      go_ret
      exact ⟨rfl, _, _, HTZ.out⟩
end Go.Proofs.Ytikophoopapngaa
