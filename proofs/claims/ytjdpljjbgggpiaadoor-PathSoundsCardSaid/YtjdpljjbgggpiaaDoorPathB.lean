/- path.into, by contract. -/
import Derived.Test.YtjdpljjbgggpiaaDoorPathS
set_option linter.unusedSimpArgs false
set_option linter.unusedVariables false
namespace Go.Proofs.YtjdpljjbgggpiaaDoor
open Go.RowKit
set_option linter.unusedVariables false

theorem u8_ne {a b : UInt8} (h : a ≠ b) : ((a.toNat : Int) == (b.toNat : Int)) = false := by
  have : a.toNat ≠ b.toNat := fun e => h (UInt8.toNat_inj.1 e)
  simp; omega
abbrev TSTEP : Nat := 57
abbrev stV (s : St) : Value := .agg #[.bool s.list, .int .i64 s.i, .string s.key]
/-- What a step's place is, in memory. -/
def IntoIs (lv ov : Value) (x : V) (s : St) (e : Ending) : Prop := match stepV x s with
  | none => e = .returned (.pointer none)
  | some (.l i) => ∀ g o cap, lv = .slice (some ⟨g, o, none⟩) x.l.length cap → e = .returned (.pointer (some ⟨g, o + i * 5, none⟩))
  | some (.o k) => ∀ g o cap, ov = .slice (some ⟨g, o, none⟩) x.o.length cap → e = .returned (.pointer (some ⟨g, o + k * 6 + 1, none⟩))

set_option maxHeartbeats 1600000 in
theorem into_ok (w : World) (pb off : Nat) (x : V) (s : St) (S S' : BS) (lv ov : Value) (hat : At5 w pb off [U8 x.kind, .int .i64 x.n, .string x.s, lv, ov]) (hl : Sl EVal w S lv x.l) (ho : Sl EField w S' ov x.o) :
    Calls Tryd.prog 39 #[.pointer (some ⟨pb, off, none⟩), stV s] w fun e w' => IntoIs lv ov x s e ∧ Ext w w' := by
  have hat0 := hat 0 _ rfl
  have hat1 := hat 1 _ rfl
  have hat2 := hat 2 _ rfl
  have hat3 := hat 3 _ rfl
  have hat4 := hat 4 _ rfl
  simp only [Nat.add_zero] at hat0
  obtain ⟨A, c, rfl, hlc, hcm⟩ := hl.shape
  obtain ⟨A', c', rfl, hlc', hcm'⟩ := ho.shape
  have hE1 : Ext w (w.alloc (.cells #[.bool s.list, .int .i64 s.i, .string s.key] TSTEP)) := (Keep.refl _ _).alloc _
  have hpb : pb < w.heap.size := lt_of_cell (hat 1 _ rfl)
  have hbx : Blk (w.alloc (.cells #[.bool s.list, .int .i64 s.i, .string s.key] TSTEP)) w.heap.size TSTEP #[.bool s.list, .int .i64 s.i, .string s.key] := Blk.new _ _ _
  have HL := hid hl
  have HO := hid ho
  have HX := hid hbx
  have HAT := hid hat
  clear hl ho hbx hat
  unfold maxLen at hcm hcm'
  obtain ⟨sl, si, sk⟩ := s
  cases sl with
  | true =>
    by_cases hk : x.kind = 4
    · rw [hk] at hat0
      by_cases h0 : si < 0
      · have b0 : decide (si < 0) = true := by simpa using h0
        have HST := hid (show stepV x ⟨true, si, sk⟩ = none by rw [stepV_l rfl, if_neg (fun h => by have := h.2.1; simp only at this; omega)])
        have HE := hid hE1
        clear hE1
        go_enter Tryd.func39, Tryd.ntmps39
        go_wp2
        go_region
        go_wp2
        go_ret
        exact ⟨by unfold IntoIs; rw [HST.out]; rfl, HE.out.drew⟩
      · have b0 : decide (si < 0) = false := by simpa using h0
        by_cases h1 : (x.l.length : Int) ≤ si
        · have b1 : decide ((x.l.length : Int) ≤ si) = true := by simpa using h1
          have HST := hid (show stepV x ⟨true, si, sk⟩ = none by rw [stepV_l rfl, if_neg (fun h => by have := h.2.2; simp only at this; omega)])
          have HE := hid hE1
          clear hE1
          go_enter Tryd.func39, Tryd.ntmps39
          go_wp2
          go_region
          go_wp2
          go_ret
          exact ⟨by unfold IntoIs; rw [HST.out]; rfl, HE.out.drew⟩
        · obtain ⟨i, rfl⟩ : ∃ i : Nat, si = i := ⟨si.toNat, by omega⟩
          have hi : i < x.l.length := by omega
          have b1 : decide ((x.l.length : Int) ≤ i) = false := by simpa using h1
          have HST := hid (show stepV x ⟨true, i, sk⟩ = some (.l i) by rw [stepV_l rfl, if_pos ⟨hk, by simp only; omega, by simp only; omega⟩]; rfl)
          obtain ⟨b1, o1, c0, rfl, _, _, hrd, hcell⟩ := HL.out.at_ EVal.ok hi
          have HE := hid hE1
          clear hE1 hcell hrd h0 h1
          go_enter Tryd.func39, Tryd.ntmps39
          go_wp2
          go_region
          go_wp2
          go_region
          go_wp2
          go_ret
          refine ⟨?_, HE.out.drew.drew⟩
          unfold IntoIs
          rw [HST.out]
          intro g o cap e
          injection e with e _ _
          injection e with e
          injection e with e1 e2
          subst e1 e2
          rfl
    · have hk' : ((x.kind.toNat : Int) != 4) = true := by rw [bne, show ((x.kind.toNat : Int) == 4) = false from u8_ne hk]; rfl
      have HST := hid (show stepV x ⟨true, si, sk⟩ = none by rw [stepV_l rfl, if_neg (fun h => hk h.1)])
      have HE := hid hE1
      clear hE1
      generalize x.kind = kk at *
      go_enter Tryd.func39, Tryd.ntmps39
      go_wp2
      go_region
      go_wp2
      go_ret
      exact ⟨by unfold IntoIs; rw [HST.out]; rfl, HE.out.drew⟩
  | false =>
    have hva : VAt w (fun k => S k ∨ S' k) (.agg #[U8 x.kind, .int .i64 x.n, .string x.s, .slice A x.l.length c, .slice A' x.o.length c']) x := ⟨_, _, rfl, HL.out.more EVal.ok fun _ _ h => .inl h, HO.out.more EField.ok fun _ _ h => .inr h⟩
    have HV := hid hva
    have HE := hid hE1
    have q0 : (w.alloc (.cells #[.bool false, .int .i64 si, .string sk] TSTEP)).cell? ⟨w.heap.size, 0, none⟩ = some (.bool false) := HX.out.cell 0
    have q1 : (w.alloc (.cells #[.bool false, .int .i64 si, .string sk] TSTEP)).cell? ⟨w.heap.size, 1, none⟩ = some (.int .i64 si) := HX.out.cell 1
    have q2 : (w.alloc (.cells #[.bool false, .int .i64 si, .string sk] TSTEP)).cell? ⟨w.heap.size, 2, none⟩ = some (.string sk) := HX.out.cell 2
    have q3 : w.heap.size < (w.alloc (.cells #[.bool false, .int .i64 si, .string sk] TSTEP)).heap.size := by simp
    replace hat0 := (hE1.cell (p := ⟨pb, off, none⟩) hpb id).trans hat0
    replace hat1 := (hE1.cell (p := ⟨pb, off + 1, none⟩) hpb id).trans hat1
    replace hat2 := (hE1.cell (p := ⟨pb, off + 2, none⟩) hpb id).trans hat2
    replace hat3 := (hE1.cell (p := ⟨pb, off + 3, none⟩) hpb id).trans hat3
    replace hat4 := (hE1.cell (p := ⟨pb, off + 4, none⟩) hpb id).trans hat4
    clear hva hE1 HAT
    go_enter Tryd.func39, Tryd.ntmps39
    go_wp2_with fail
    generalize w.alloc (.cells #[.bool false, .int .i64 si, .string sk] TSTEP) = w1 at *
    go_wp2_with fail
    refine wp_region_grow (specOf [(5, fun v _ => v = .tuple #[.int .i64 (fieldL x.o sk : Int), .bool (fieldIs x.o sk)])])
      (fun w' => Ext w1 w') ?_ (stableC_ext _) (by kernel_rfl) (by kernel_rfl) (Keep.drew (Keep.refl _ _)) ?_
    · exact stable_cons (fun v w w' h he => h) stable_nil
    iterate 5
      (try simp only [Act.put, List.setIfInBounds_toArray, List.set_cons_zero, List.set_cons_succ])
      refine grow_run rfl rfl rfl ?_
      apply Exists.intro
      refine ⟨fun w' hC hK => ?_, ?_⟩
      · have hat0 := (hC.cell (lt_of_cell hat0) id).trans hat0
        have hat1 := (hC.cell (lt_of_cell hat1) id).trans hat1
        have hat2 := (hC.cell (lt_of_cell hat2) id).trans hat2
        have hat3 := (hC.cell (lt_of_cell hat3) id).trans hat3
        have hat4 := (hC.cell (lt_of_cell hat4) id).trans hat4
        have q0 := (hC.cell (lt_of_cell q0) id).trans q0
        have q1 := (hC.cell (lt_of_cell q1) id).trans q1
        have q2 := (hC.cell (lt_of_cell q2) id).trans q2
        go_simp
        rfl
    (try simp only [Act.put, List.setIfInBounds_toArray, List.set_cons_zero, List.set_cons_succ])
    refine grow_eff rfl rfl rfl (fun w' hC hK => ?_) (fun v5 hv5 => ?_)
    · unfold growAt
      go_simp
      refine grow_call ((field_val _ _ _ x sk (HV.out.ext (HE.out.ext hC))).mono ?_)
      rintro e w'' ⟨rfl, h1⟩
      exact ⟨_, rfl, h1, rfl⟩
    obtain ⟨_, _, rfl⟩ := hv5.head
    iterate 5
      (try simp only [Act.put, List.setIfInBounds_toArray, List.set_cons_zero, List.set_cons_succ])
      refine grow_run rfl rfl rfl ?_
      apply Exists.intro
      refine ⟨fun w' hC hK => ?_, ?_⟩
      · go_simp
        rfl
    refine grow_nil fun w2 hC _ => ?_
    have hC : Ext w1 w2 := hC
    have HE2 := hid (HE.out.ext hC)
    replace hat0 := (hC.cell (lt_of_cell hat0) id).trans hat0
    replace hat1 := (hC.cell (lt_of_cell hat1) id).trans hat1
    replace hat2 := (hC.cell (lt_of_cell hat2) id).trans hat2
    replace hat3 := (hC.cell (lt_of_cell hat3) id).trans hat3
    replace hat4 := (hC.cell (lt_of_cell hat4) id).trans hat4
    replace q0 := (hC.cell (lt_of_cell q0) id).trans q0
    replace q1 := (hC.cell (lt_of_cell q1) id).trans q1
    replace q2 := (hC.cell (lt_of_cell q2) id).trans q2
    clear hC hv5
    by_cases hk : x.kind = 5
    · rw [hk] at hat0
      cases hfi : fieldIs x.o sk with
      | false =>
        have HST := hid (show stepV x ⟨false, si, sk⟩ = none by rw [stepV_o rfl, if_neg (fun h => by have := h.2; simp only at this; rw [hfi] at this; cases this)])
        clear hfi
        go_wp2
        go_ret
        exact ⟨by unfold IntoIs; rw [HST.out]; rfl, HE2.out⟩
      | true =>
        have hi := fieldIs_lt hfi
        have HST := hid (show stepV x ⟨false, si, sk⟩ = some (.o (fieldL x.o sk)) by rw [stepV_o rfl, if_pos ⟨hk, hfi⟩])
        obtain ⟨b1, o1, c0, rfl, _, _, hrd, hcell⟩ := HO.out.at_ EField.ok hi
        clear hfi hcell hrd
        generalize fieldL x.o sk = i at *
        go_wp2
        go_ret
        refine ⟨?_, HE2.out⟩
        unfold IntoIs
        rw [HST.out]
        intro g o cap e
        injection e with e _ _
        injection e with e
        injection e with e1 e2
        subst e1 e2
        rfl
    · have hk' : ((x.kind.toNat : Int) != 5) = true := by rw [bne, show ((x.kind.toNat : Int) == 5) = false from u8_ne hk]; rfl
      have HST := hid (show stepV x ⟨false, si, sk⟩ = none by rw [stepV_o rfl, if_neg (fun h => hk h.1)])
      generalize fieldIs x.o sk = fi at *
      generalize fieldL x.o sk = fl at *
      generalize x.kind = kk at *
      go_wp2
      go_ret
      exact ⟨by unfold IntoIs; rw [HST.out]; rfl, HE2.out⟩
/-- Where a step from x leads, I holds there. -/
def NextI (I : World → Nat → Nat → Nat → V → Prop) (w : World) (j : Nat) (lv ov : Value) (x : V) (s : St) : Prop := match stepV x s with
  | none => True
  | some (.l i) => ∃ g o c y, lv = .slice (some ⟨g, o, none⟩) x.l.length c ∧ I w (j + 1) g (o + i * 5) y
  | some (.o k) => ∃ g o c y, ov = .slice (some ⟨g, o, none⟩) x.o.length c ∧ I w (j + 1) g (o + k * 6 + 1) y
theorem IntoIs.next {I : World → Nat → Nat → Nat → V → Prop} {w : World} {j : Nat} {lv ov : Value} {x : V} {s : St} {e : Ending} (h : IntoIs lv ov x s e) (hn : NextI I w j lv ov x s) :
    (e = .returned (.pointer none) ∧ stepV x s = none) ∨ ∃ g o y, e = .returned (.pointer (some ⟨g, o, none⟩)) ∧ I w (j + 1) g o y := by
  unfold IntoIs at h
  unfold NextI at hn
  cases hs : stepV x s with
  | none => rw [hs] at h; exact .inl ⟨h, rfl⟩
  | some loc =>
    rw [hs] at h hn
    cases loc with
    | l i => obtain ⟨g, o, c, y, h1, h2⟩ := hn; exact .inr ⟨g, _, y, h g o c h1, h2⟩
    | o k => obtain ⟨g, o, c, y, h1, h2⟩ := hn; exact .inr ⟨g, _, y, h g o c h1, h2⟩
end Go.Proofs.YtjdpljjbgggpiaaDoor
