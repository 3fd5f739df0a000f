/- path.at with a function of the caller's, by contract. -/
import Derived.Test.YtjdpljjbgggpiaaDoorPathB
set_option linter.unusedSimpArgs false
set_option linter.unusedVariables false
namespace Go.Proofs.YtjdpljjbgggpiaaDoor
open Go.RowKit
set_option linter.unusedVariables false

set_option maxHeartbeats 1600000 in
theorem at_get (I : World → Nat → Nat → Nat → V → Prop) (Q : World → Nat → Nat → V → World → Prop) (w : World) (S : BS) (pv cap : Value) (p : List St) (rb roff : Nat) (v0 : V) (hp : Sl ESt w S pv p) (h0 : I w 0 rb roff v0)
    (hext : ∀ w w' j b off x, I w j b off x → Ext w w' → I w' j b off x)
    (hstep : ∀ w j (hj : j < p.length) b off x, I w j b off x → ∃ lv ov S1 S2, At5 w b off [U8 x.kind, .int .i64 x.n, .string x.s, lv, ov] ∧ Sl EVal w S1 lv x.l ∧ Sl EField w S2 ov x.o ∧ NextI I w j lv ov x p[j])
    (hdo : ∀ w1 b off x, I w1 p.length b off x → Ext w w1 → Calls Tryd.prog 28 #[.pointer (some ⟨b, off, none⟩), cap] w1 fun e w' => e = .returned (.tuple #[]) ∧ Q w1 b off x w') :
    Calls Tryd.prog 27 #[.pointer (some ⟨rb, roff, none⟩), pv, .func (.func 28) #[] #[cap]] w fun e w' =>
      (e = .returned (.int .u16 30) ∧ Ext w w' ∧ ∃ j b off x w1, ∃ hj : j < p.length, I w1 j b off x ∧ stepV x p[j] = none) ∨
      (e = .returned (.int .u16 0) ∧ ∃ w1 b off x, Ext w w1 ∧ I w1 p.length b off x ∧ Q w1 b off x w') := by
  obtain ⟨A, c, rfl, hlc, hcm⟩ := hp.shape
  unfold maxLen at hcm
  have HP := hid hp
  have HX := hid hext
  have HS := hid hstep
  have HD := hid hdo
  clear hp hext hstep hdo
  go_enter Tryd.func27, Tryd.ntmps27
  go_wp2
  go_loopw [0, 11] (fun v i wr => ∃ (j b off : Nat) (x : V), j ≤ p.length ∧ i = .int .i64 j ∧ v = .pointer (some ⟨b, off, none⟩) ∧ I wr j b off x ∧ Ext w wr) (fun _ i _ => p.length - (intOf i).toNat)
  case atStart => exact ⟨0, rb, roff, v0, by omega, rfl, rfl, h0, Keep.refl _ _⟩
  case round =>
    obtain ⟨j, b, off, x, hj, rfl, rfl, hi, hE⟩ := hrel
    have HI := hid hi
    have HE := hid hE
    clear hi hE
    by_cases hlt : j < p.length
    · obtain ⟨b1, o1, c0, rfl, _, _, hrd, hcell⟩ := (HP.out.ext ESt.ok HE.out).at_ ESt.ok hlt
      have hrd' : c0 = [.bool p[j].list, .int .i64 p[j].i, .string p[j].key] := hrd
      subst hrd'
      have e0 := hcell 0 _ rfl
      have e1 := hcell 1 _ rfl
      have e2 := hcell 2 _ rfl
      have hz : ESt.size = 3 := rfl
      simp only [hz, Nat.add_zero] at e0 e1 e2
      have HSJ := hid (fun w => HS.out w j hlt)
      obtain ⟨s, hsn⟩ : ∃ s, s = p[j] := ⟨_, rfl⟩
      rw [← hsn] at e0 e1 e2 HSJ
      have HSN := hid hsn
      clear hsn
      have hjX : (j : Int) < p.length := by omega
      clear hcell hz hrd
      have hE1 : Ext wr (wr.alloc (.cells #[.bool s.list, .int .i64 s.i, .string s.key] TSTEP)) := (Keep.refl _ _).alloc _
      go_wp2_with fail
      generalize wr.alloc (.cells #[.bool s.list, .int .i64 s.i, .string s.key] TSTEP) = w1 at *
      obtain ⟨lv, ov, S1, S2, hat, hl, ho, hn⟩ := HSJ.out w1 b off x (HX.out _ _ _ _ _ _ HI.out hE1)
      refine (into_ok _ _ _ _ s _ _ _ _ hat hl ho).mono ?_
      rintro e w2 ⟨hi2, hE2⟩
      have HE2 := hid ((HE.out.ext hE1).ext hE2)
      have HN := hid (hi2.next hn)
      have HI1 := hid (HX.out _ _ _ _ _ _ HI.out hE1)
      have HE12 := hid hE2
      clear hat hl ho hn hi2 hE1 hE2 e0 e1 e2
      rcases HN.out with ⟨rfl, hst⟩ | ⟨g, o, y, rfl, hI2⟩
      · have HST := hid hst
        clear hst
        go_wp2
        go_ret
        exact .inl ⟨rfl, HE2.out, j, b, off, x, w1, hlt, HI1.out, by rw [← HSN.out]; exact HST.out⟩
      · have HI2 := hid (HX.out _ _ _ _ _ _ hI2 HE12.out)
        clear hI2
        go_wp2
        go_roundw
        case rel => exact ⟨j + 1, g, o, y, by omega, by go_num, rfl, HI2.out, HE2.out⟩
        case measure => simp [intOf]; omega
    · obtain rfl : j = p.length := by omega
      have HQ := hid (HD.out wr b off x HI.out HE.out)
      go_wp2_with (go_at_call 28; refine HQ.out.mono ?_; rintro e w2 ⟨rfl, hq⟩; have HQ2 := hid hq; clear hq)
      go_ret
      exact .inr ⟨rfl, wr, b, off, x, HE.out, HI.out, HQ2.out⟩
end Go.Proofs.YtjdpljjbgggpiaaDoor
