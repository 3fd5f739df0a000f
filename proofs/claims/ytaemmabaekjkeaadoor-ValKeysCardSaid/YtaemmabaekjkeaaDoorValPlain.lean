/- val.plain and val.rising at any value. -/
import Derived.Test.YtaemmabaekjkeaaDoorVld
import Derived.Test.YtaemmabaekjkeaaDoorVStr
set_option linter.unusedSimpArgs false
set_option linter.unusedVariables false
namespace Go.Proofs.YtaemmabaekjkeaaDoor
open Go.RowKit
set_option linter.unusedVariables false

/-- The fields of a value are as its kind asks. -/
def plainB (x : V) : Bool :=
  if x.kind = 0 then x.n == 0 && x.s.toList.isEmpty && x.l.isEmpty && x.o.isEmpty else
  if x.kind = 1 then (x.n == 0 || x.n == 1) && x.s.toList.isEmpty && x.l.isEmpty && x.o.isEmpty else
  if x.kind = 2 then x.s.toList.isEmpty && x.l.isEmpty && x.o.isEmpty else
  if x.kind = 3 then x.n == 0 && Lib.validD x.s.data.toList && x.l.isEmpty && x.o.isEmpty else
  if x.kind = 4 then x.n == 0 && x.s.toList.isEmpty && x.o.isEmpty else
  if x.kind = 5 then x.n == 0 && x.s.toList.isEmpty && x.l.isEmpty else false
theorem len_isEmpty {α : Type} (l : List α) : ((l.length : Int) == 0) = l.isEmpty := by cases l <;> simp; omega

set_option maxRecDepth 20000 in
set_option maxHeartbeats 6400000 in
theorem plain_any (w0 : World) (hv : ValAny w0) (x : V) (u : Value) (S : BS) (w : World) (he : Ext w0 w) (hs : x.s.size ≤ 9223372036854775807) (hu : VAt w S u x) :
    Calls Tryd.prog 28 #[u] w fun e w' => e = .returned (.bool (plainB x)) ∧ Ext w w' := by
  obtain ⟨lv, ov, rfl, hl, ho⟩ := hu
  obtain ⟨A, c, rfl, hlc, hcm⟩ := hl.shape
  obtain ⟨A', c', rfl, hlc', hcm'⟩ := ho.shape
  clear hl ho
  unfold maxLen at hcm hcm'
  have hE1 : Ext w (w.alloc (.cells #[U8 x.kind, .int .i64 x.n, .string x.s, .slice A x.l.length c, .slice A' x.o.length c'] TVAL)) := (Keep.refl _ _).alloc _
  have hb1 := Blk.new w TVAL #[U8 x.kind, .int .i64 x.n, .string x.s, .slice A x.l.length c, .slice A' x.o.length c']
  have HV := hid (fun w' (h : Ext w w') => hv x.s hs w' (he.ext h))
  have HE1 := hid hE1
  have HB1 := hid hb1
  clear hv hs he hE1 hb1
  obtain ⟨pb, hpb⟩ : ∃ pb, plainB x = pb := ⟨_, rfl⟩
  rw [hpb]
  unfold plainB at hpb
  have hll := len_isEmpty x.l
  have hlo := len_isEmpty x.o
  generalize x.l.isEmpty = bl at *
  generalize x.o.isEmpty = bo at *
  generalize x.l.length = nl at *
  generalize x.o.length = no at *
  generalize x.n = n at *
  generalize x.s = s at *
  generalize Lib.validD s.data.toList = vd at *
  generalize x.kind = k at *
  obtain ⟨bs, hbs⟩ : ∃ bs, s.toList.isEmpty = bs := ⟨_, rfl⟩
  obtain ⟨bn, hbn⟩ : ∃ bn, (n == 0) = bn := ⟨_, rfl⟩
  rw [hbs] at hpb
  rw [hbn] at hpb
  have HPB := hid hpb
  clear hpb
  obtain ⟨q0, q1, q2, q3, q4⟩ := blk5 HB1.out
  go_enter Tryd.func28, Tryd.ntmps28
  go_wp2_with fail
  generalize w.alloc (.cells _ _) = w1 at *
  refine wp_region_grow (specOf []) (fun w' => Ext w1 w') stable_nil (stableC_ext _) (by kernel_rfl) (by kernel_rfl) (Keep.drew (Keep.refl _ _)) ?_
  iterate 18
    (try simp only [Act.put, List.setIfInBounds_toArray, List.set_cons_zero, List.set_cons_succ])
    refine grow_run rfl rfl rfl ?_
    apply Exists.intro
    refine ⟨fun w' hC hK => ?_, ?_⟩
    · have q0 := (hC.cell (lt_of_cell q0) id).trans q0
      have q1 := (hC.cell (lt_of_cell q1) id).trans q1
      have q2 := (hC.cell (lt_of_cell q2) id).trans q2
      have q3 := (hC.cell (lt_of_cell q3) id).trans q3
      have q4 := (hC.cell (lt_of_cell q4) id).trans q4
      go_simp
      rfl
  refine grow_nil fun w2 hC _ => ?_
  have hC : Ext w1 w2 := hC
  have HE2 := hid (HE1.out.ext hC)
  replace q0 := (hC.cell (lt_of_cell q0) id).trans q0
  replace q1 := (hC.cell (lt_of_cell q1) id).trans q1
  replace q2 := (hC.cell (lt_of_cell q2) id).trans q2
  replace q3 := (hC.cell (lt_of_cell q3) id).trans q3
  replace q4 := (hC.cell (lt_of_cell q4) id).trans q4
  clear hC hll hlo hbs hbn
  (try simp only [Act.put, List.setIfInBounds_toArray, List.set_cons_zero, List.set_cons_succ])
  have hkk : k = 0 ∨ k = 1 ∨ k = 2 ∨ k = 3 ∨ k = 4 ∨ k = 5 ∨ 5 < k.toNat := by
    have h0 : ∀ j : UInt8, k.toNat = j.toNat → k = j := fun j h => UInt8.toNat_inj.1 h
    rcases Nat.lt_or_ge 5 k.toNat with h | h
    · exact .inr (.inr (.inr (.inr (.inr (.inr h)))))
    · rcases (show k.toNat = 0 ∨ k.toNat = 1 ∨ k.toNat = 2 ∨ k.toNat = 3 ∨ k.toNat = 4 ∨ k.toNat = 5 by omega) with h | h | h | h | h | h
      · exact .inl (h0 0 h)
      · exact .inr (.inl (h0 1 h))
      · exact .inr (.inr (.inl (h0 2 h)))
      · exact .inr (.inr (.inr (.inl (h0 3 h))))
      · exact .inr (.inr (.inr (.inr (.inl (h0 4 h)))))
      · exact .inr (.inr (.inr (.inr (.inr (.inl (h0 5 h))))))
  rcases hkk with rfl | rfl | rfl | rfl | rfl | rfl | hk
  · skip
    cases bn with
    | false =>
      have HP2 := HPB.out
      simp at HP2
      go_wp2
      go_ret
      exact ⟨by first | rfl | (rw [HP2]; rfl) | simp [HP2], HE2.out⟩
    | true =>
      cases bs with
      | false =>
        have HP2 := HPB.out
        simp at HP2
        go_wp2
        go_ret
        exact ⟨by first | rfl | (rw [HP2]; rfl) | simp [HP2], HE2.out⟩
      | true =>
        cases bl with
        | false =>
          have HP2 := HPB.out
          simp at HP2
          go_wp2
          go_ret
          exact ⟨by first | rfl | (rw [HP2]; rfl) | simp [HP2], HE2.out⟩
        | true =>
          cases bo with
          | false =>
            have HP2 := HPB.out
            simp at HP2
            go_wp2
            go_ret
            exact ⟨by first | rfl | (rw [HP2]; rfl) | simp [HP2], HE2.out⟩
          | true =>
            have HP2 := HPB.out
            simp at HP2
            go_wp2
            go_ret
            exact ⟨by first | rfl | (rw [HP2]; rfl) | simp [HP2], HE2.out⟩
  · obtain ⟨b1, hb1⟩ : ∃ b1, (n == 1) = b1 := ⟨_, rfl⟩
    rw [hb1] at HPB
    have HNB := hid hb1
    cases bn with
    | true =>
      clear hb1 HNB
      cases bs with
      | false =>
        have HP2 := HPB.out
        simp at HP2
        go_wp2
        go_ret
        exact ⟨by first | rfl | (rw [HP2]; rfl) | simp [HP2], HE2.out⟩
      | true =>
        cases bl with
        | false =>
          have HP2 := HPB.out
          simp at HP2
          go_wp2
          go_ret
          exact ⟨by first | rfl | (rw [HP2]; rfl) | simp [HP2], HE2.out⟩
        | true =>
          cases bo with
          | false =>
            have HP2 := HPB.out
            simp at HP2
            go_wp2
            go_ret
            exact ⟨by first | rfl | (rw [HP2]; rfl) | simp [HP2], HE2.out⟩
          | true =>
            have HP2 := HPB.out
            simp at HP2
            go_wp2
            go_ret
            exact ⟨by first | rfl | (rw [HP2]; rfl) | simp [HP2], HE2.out⟩
    | false =>
      cases b1 with
      | false =>
        have HP2 := HPB.out
        simp at HP2
        go_wp2
        go_ret
        exact ⟨by first | rfl | (rw [HP2]; rfl) | simp [HP2], HE2.out⟩
      | true =>
        cases bs with
        | false =>
          have HP2 := HPB.out
          simp at HP2
          go_wp2
          go_ret
          exact ⟨by first | rfl | (rw [HP2]; rfl) | simp [HP2], HE2.out⟩
        | true =>
          cases bl with
          | false =>
            have HP2 := HPB.out
            simp at HP2
            go_wp2
            go_ret
            exact ⟨by first | rfl | (rw [HP2]; rfl) | simp [HP2], HE2.out⟩
          | true =>
            cases bo with
            | false =>
              have HP2 := HPB.out
              simp at HP2
              go_wp2
              go_ret
              exact ⟨by first | rfl | (rw [HP2]; rfl) | simp [HP2], HE2.out⟩
            | true =>
              have HP2 := HPB.out
              simp at HP2
              go_wp2
              go_ret
              exact ⟨by first | rfl | (rw [HP2]; rfl) | simp [HP2], HE2.out⟩
  · skip
    cases bs with
    | false =>
      have HP2 := HPB.out
      simp at HP2
      go_wp2
      go_ret
      exact ⟨by first | rfl | (rw [HP2]; rfl) | simp [HP2], HE2.out⟩
    | true =>
      cases bl with
      | false =>
        have HP2 := HPB.out
        simp at HP2
        go_wp2
        go_ret
        exact ⟨by first | rfl | (rw [HP2]; rfl) | simp [HP2], HE2.out⟩
      | true =>
        cases bo with
        | false =>
          have HP2 := HPB.out
          simp at HP2
          go_wp2
          go_ret
          exact ⟨by first | rfl | (rw [HP2]; rfl) | simp [HP2], HE2.out⟩
        | true =>
          have HP2 := HPB.out
          simp at HP2
          go_wp2
          go_ret
          exact ⟨by first | rfl | (rw [HP2]; rfl) | simp [HP2], HE2.out⟩
  · skip
    cases bn with
    | false =>
      have HP2 := HPB.out
      simp at HP2
      go_wp2
      go_ret
      exact ⟨by first | rfl | (rw [HP2]; rfl) | simp [HP2], HE2.out⟩
    | true =>
      go_wp2_with fail
      refine (HV.out _ HE2.out).mono ?_
      rintro e w3 ⟨rfl, hE3⟩
      have HE3 := hid (HE2.out.ext hE3)
      clear hE3 q0 q1 q2 q3 q4
      cases vd with
      | false =>
        have HP2 := HPB.out
        simp at HP2
        go_wp2
        go_ret
        exact ⟨by first | rfl | (rw [HP2]; rfl) | simp [HP2], HE3.out⟩
      | true =>
        cases bl with
        | false =>
          have HP2 := HPB.out
          simp at HP2
          go_wp2
          go_ret
          exact ⟨by first | rfl | (rw [HP2]; rfl) | simp [HP2], HE3.out⟩
        | true =>
          cases bo with
          | false =>
            have HP2 := HPB.out
            simp at HP2
            go_wp2
            go_ret
            exact ⟨by first | rfl | (rw [HP2]; rfl) | simp [HP2], HE3.out⟩
          | true =>
            have HP2 := HPB.out
            simp at HP2
            go_wp2
            go_ret
            exact ⟨by first | rfl | (rw [HP2]; rfl) | simp [HP2], HE3.out⟩
  · skip
    cases bn with
    | false =>
      have HP2 := HPB.out
      simp at HP2
      go_wp2
      go_ret
      exact ⟨by first | rfl | (rw [HP2]; rfl) | simp [HP2], HE2.out⟩
    | true =>
      cases bs with
      | false =>
        have HP2 := HPB.out
        simp at HP2
        go_wp2
        go_ret
        exact ⟨by first | rfl | (rw [HP2]; rfl) | simp [HP2], HE2.out⟩
      | true =>
        cases bo with
        | false =>
          have HP2 := HPB.out
          simp at HP2
          go_wp2
          go_ret
          exact ⟨by first | rfl | (rw [HP2]; rfl) | simp [HP2], HE2.out⟩
        | true =>
          have HP2 := HPB.out
          simp at HP2
          go_wp2
          go_ret
          exact ⟨by first | rfl | (rw [HP2]; rfl) | simp [HP2], HE2.out⟩
  · skip
    cases bn with
    | false =>
      have HP2 := HPB.out
      simp at HP2
      go_wp2
      go_ret
      exact ⟨by first | rfl | (rw [HP2]; rfl) | simp [HP2], HE2.out⟩
    | true =>
      cases bs with
      | false =>
        have HP2 := HPB.out
        simp at HP2
        go_wp2
        go_ret
        exact ⟨by first | rfl | (rw [HP2]; rfl) | simp [HP2], HE2.out⟩
      | true =>
        cases bl with
        | false =>
          have HP2 := HPB.out
          simp at HP2
          go_wp2
          go_ret
          exact ⟨by first | rfl | (rw [HP2]; rfl) | simp [HP2], HE2.out⟩
        | true =>
          have HP2 := HPB.out
          simp at HP2
          go_wp2
          go_ret
          exact ⟨by first | rfl | (rw [HP2]; rfl) | simp [HP2], HE2.out⟩
  · have hkX : ∀ j : Nat, j ≤ 5 → ((k.toNat : Int) == (j : Int)) = false := fun j hj => by simp; omega
    have h0 : ((k.toNat : Int) == 0) = false := hkX 0 (by omega)
    have h1 : ((k.toNat : Int) == 1) = false := hkX 1 (by omega)
    have h2 : ((k.toNat : Int) == 2) = false := hkX 2 (by omega)
    have h3 : ((k.toNat : Int) == 3) = false := hkX 3 (by omega)
    have h4 : ((k.toNat : Int) == 4) = false := hkX 4 (by omega)
    have h5 : ((k.toNat : Int) == 5) = false := hkX 5 (by omega)
    have hne : ∀ j : UInt8, j.toNat ≤ 5 → k ≠ j := fun j hj e => by subst e; omega
    have HP2 := hid (show false = pb from by
      have := HPB.out
      rwa [if_neg (hne 0 (by decide)), if_neg (hne 1 (by decide)), if_neg (hne 2 (by decide)), if_neg (hne 3 (by decide)), if_neg (hne 4 (by decide)), if_neg (hne 5 (by decide))] at this)
    clear hkX hne HPB
    go_wp2
    go_ret
    exact ⟨by rw [← HP2.out]; first | rfl | simp, HE2.out⟩
end Go.Proofs.YtaemmabaekjkeaaDoor
