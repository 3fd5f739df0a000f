/- The reference's network: Twice. -/
import Derived.Test.YtjpbfdkpkeaofaaRNetC
set_option linter.unusedSimpArgs false
set_option linter.unusedVariables false
namespace Go.Proofs.Ytjpbfdkpkeaofaa
open Go.RowKit
set_option linter.unusedVariables false

theorem rtwice_no (w : World) (S : BS) (bn : Nat) (g : Option Nat) (ms : List Mail) (i : Int) (h : RnAt w S bn g ms) (hi : i < 0 ∨ (ms.length : Int) ≤ i) :
    Calls Try.prog 26 #[.pointer (some ⟨bn, 0, none⟩), .int .i64 i] w fun e w' => e = .returned (.bool false) ∧ w = w' := by
  have HI := hid hi
  clear hi
  go_enter Try.func26, Try.ntmps26
  go_wp2_with fail
  refine (there_ok _ _ _ _ _ _ false h (by have := HI.out; simp; omega)).mono ?_
  rintro e w1 ⟨rfl, rfl⟩
  go_wp2
  go_ret
  exact ⟨rfl, rfl⟩

set_option maxRecDepth 20000 in
set_option maxHeartbeats 1600000 in
theorem rtwice_yes (w : World) (S : BS) (bn : Nat) (g : Option Nat) (ms : List Mail) (i : Nat) (h : RnAt w S bn g ms) (hi : i < ms.length) (h2 : ms.length < 2000) (hb6 : ms[i].b.length ≤ 60000) :
    Calls Try.prog 26 #[.pointer (some ⟨bn, 0, none⟩), .int .i64 (i : Int)] w fun e w' =>
      e = .returned (.bool true) ∧ ∃ g', RnAt w' (SOld w S g g') bn g' (ms.take (i + 1) ++ ms[i] :: ms.drop (i + 1)) ∧ (g' = none ∨ ∃ k, g' = some k ∧ w.heap.size ≤ k) ∧ Keep (NF bn g) w w' := by
  have HBN := hid h.lt
  have HNS := hid h.notS
  have hn1 := h.cutS
  generalize hm : ms[i] = m at *
  have HM := hid hm
  have HB6 := hid hb6
  clear hm h hb6
  have hns : ¬ (2000 : Int) ≤ (ms.length : Int) := by omega
  obtain ⟨va, hb, hg, hown, hSb, hSg⟩ := id hn1
  obtain ⟨gb, cap, rfl, hgb, hgb2, hlc, hcm⟩ := hown.form (by omega)
  obtain rfl : some gb = g := hg
  have d0 := hb.cell 0
  simp at d0
  unfold maxLen at hcm
  have HSL := hid (hown.sl EMail.ok)
  have HB2 := hid hb
  obtain ⟨hsf, hvf⟩ := front_fact (P := Try.prog) EMail.ok ty_mail HSL.out (hi := i + 1) (b := (i : Int) + 1) (by omega) (by omega)
  obtain ⟨A4, hst, hvt⟩ := tail_fact (P := Try.prog) EMail.ok ty_mail HSL.out (lo := i + 1) (a := (i : Int) + 1) (by omega) (by omega)
  have hfl : (ms.take (i + 1)).length = i + 1 := by rw [List.length_take]; omega
  have htl : (ms.drop (i + 1)).length = ms.length - (i + 1) := by rw [List.length_drop]
  have HVF := hid hvf
  have HVT := hid hvt
  clear hb hown hvf hvt hSb hSg
  go_enter Try.func26, Try.ntmps26
  go_wp2_with fail
  refine (there_ok _ _ _ _ _ _ true hn1 (by simp; omega)).mono ?_
  rintro e w1 ⟨rfl, rfl⟩
  clear hn1
  have H2 := hid h2
  have HCM := hid hcm
  clear h2 hcm
  go_wp2_with (at_builtin; refine wpList_own_append (E := EMail) (ys := ms.take (i + 1)) _ rfl (.tmp 18) (.tmp 25) EMail.ok ty_mail rfl rfl rfl (Own.nil _ w.heap.size _ (fun _ => False)) HVF.out ?c1 ?c2 ?c3 ?c4 ?_)
  case c1 => intro g hg; cases hg
  case c2 => rw [hfl]; simp; omega
  case c3 => rw [hfl]; simp [maxLen]; omega
  case c4 => exact Nat.le_refl _
  intro v5 w5 ho5 hk5 hb5
  obtain ⟨A5, c5, e5, hc5, _⟩ := ho5.shape
  rw [hfl] at e5
  subst e5
  have HE5 := hid (show Ext w w5 from hk5.mono fun q _ e => by cases e)
  have HO5 := hid (ho5.more (S' := fun k => (S k ∧ k < w.heap.size) ∨ k = gb) EMail.ok fun q _ h => by
    have h : (S q ∧ q < w.heap.size) ∨ some gb = some q := by first | exact h | exact Or.elim h (fun h => h.elim) id
    exact h.imp id fun h => (Option.some.inj h).symm)
  have HL5 := hid (fun g (e : (Value.slice A5 (i + 1) c5).ownBlock = some g) => ho5.lt e)
  have hd5 := (HE5.out.cell (lt_of_cell d0) id).trans d0
  obtain ⟨b7, o7, c7, e7, hb7, hl7, hr7, hcc7⟩ := (HSL.out.ext EMail.ok HE5.out).at_ EMail.ok (k := i) hi
  rw [HM.out] at hr7
  obtain ⟨bv7, rfl, hv7⟩ := hr7
  have e0 := hcc7 0 _ rfl
  have e1 := hcc7 1 _ rfl
  have e2 := hcc7 2 _ rfl
  injection e7 with e7
  injection e7 with e7 e8
  subst e7 e8
  have hz3 : EMail.size = 3 := rfl
  simp only [hz3, Nat.add_zero, Nat.zero_add] at e0 e1 e2
  obtain ⟨A7, d7, rfl, _⟩ := hv7.shape
  have HV7 := hid hv7
  clear hz3 hcc7 hv7 ho5 hk5 hb5 HVF hsf d0
  go_wp2_with fail
  refine (rlent_mail _ _ _ _ _ _ HV7.out HB6.out).mono ?_
  rintro e w7 ⟨bv8, rfl, hb8, hE7⟩
  obtain ⟨A8, d8, rfl, _⟩ := hb8.shape
  have hd7 := (hE7.cell (lt_of_cell hd5) id).trans hd5
  have hE8 : Ext w7 (w7.alloc (.cells #[.int .i64 m.sess, .bool m.up, .slice A8 m.b.length d8] TMAIL)) := (Keep.refl _ _).alloc _
  have hrow : RowS (w7.alloc (.cells #[.int .i64 m.sess, .bool m.up, .slice A8 m.b.length d8] TMAIL)) (fun k => k = w7.heap.size) 3 (.slice (some ⟨w7.heap.size, 0, none⟩) 1 1) 1 [.int .i64 m.sess, .bool m.up, .slice A8 m.b.length d8] :=
    RowS.new (w := w7) (sz := 3) (cs := [_, _, _]) (n := 1) rfl (by simp [maxLen])
  obtain ⟨w8, hw8⟩ : ∃ w8, w7.alloc (.cells #[.int .i64 m.sess, .bool m.up, .slice A8 m.b.length d8] TMAIL) = w8 := ⟨_, rfl⟩
  rw [hw8] at hE8 hrow
  have HR := hid hrow
  have HE7 := hid hE7
  have HE58 := hid (hE7.ext hE8)
  have HO8 := hid ((HO5.out.ext EMail.ok hE7).ext EMail.ok hE8)
  have HW58 := hid hE7.size
  have HX0 := hid (show ∀ k, ((S k ∧ k < w.heap.size) ∨ k = gb) → k < w.heap.size from fun k h => by
    rcases h with h | h
    · exact h.2
    · rw [h]; exact hgb2)
  obtain ⟨X0, hX0⟩ : ∃ X0 : BS, X0 = fun k => (S k ∧ k < w.heap.size) ∨ k = gb := ⟨_, rfl⟩
  have hx0 : ∀ k, X0 k → k < w.heap.size := fun k h => by rw [hX0] at h; exact HX0.out k h
  have HX0E := hid hX0
  have HV8 := hid ((hb8.more (S' := fun k => X0 k ∨ (w5.heap.size ≤ k ∧ k < w7.heap.size)) EU8.ok fun k h1 h2 => .inr ⟨h2, h1⟩).ext EU8.ok hE8)
  rw [← hX0] at HO8
  have HTT := hid ((((HVT.out.ext EMail.ok HE5.out).ext EMail.ok hE7).ext EMail.ok hE8).more (S' := X0) EMail.ok fun k _ h => by rw [hX0]; exact h.imp id fun h => (Option.some.inj h).symm)
  clear hX0
  have HXX := hid hx0
  have HS05 := hid HE5.out.size
  have HZ8 := hid hE8.size
  have hd8 := (hE8.cell (lt_of_cell hd7) id).trans hd7
  clear hrow hE7 hE8 hb8 HO5 HV7 HVT hx0 hd5 hd7 e0 e1 e2
  go_wp2_with (at_builtin; refine wpList_own_append2 (P := Try.prog) (E := EMail) (v := .slice A5 (i + 1) c5) (ys := [m]) _ rfl (.tmp 27) (.tmp 36) EMail.ok ty_mail rfl rfl rfl HO8.out HR.out (Cells.single ⟨_, rfl, HV8.out⟩) ?f1 ?f2 ?f3 ?f4 ?_)
  case f1 =>
    intro g hg
    have h1 := HL5.out g hg
    exact ⟨fun h => by have := HXX.out g h; omega, fun h => by rcases h with h | h; have := HXX.out g h; omega; omega⟩
  case f2 => rw [hfl]; simp; omega
  case f3 => rw [hfl]; simp [maxLen]; omega
  case f4 => have := HZ8.out; have := HW58.out; have := HS05.out; omega
  intro v9 w9 ho9 hk9 hb9
  obtain ⟨A9, c9, e9, hc9, _⟩ := ho9.shape
  have hl9 : (ms.take (i + 1) ++ [m]).length = i + 2 := by rw [List.length_append, hfl]; rfl
  rw [hl9] at e9
  subst e9
  have HE9 := hid (show Ext w w9 from (HE5.out.ext HE58.out).trans hk9 fun q hq e => by have := (HL5.out q e).1; omega)
  have HS9 := hid hk9.size
  have HO9 := hid (ho9.more (S' := fun k => X0 k ∨ (w5.heap.size ≤ k ∧ k < w7.heap.size)) EMail.ok fun q _ h => by
    rcases h with h | h
    · exact .inl h
    · first | exact h | exact .inr h)
  have HL9 := hid (show ∀ g, (Value.slice A9 (i + 2) c9).ownBlock = some g → w.heap.size ≤ g ∧ ¬ (w5.heap.size ≤ g ∧ g < w7.heap.size) ∧ g < w9.heap.size from fun g e => by
    have h1 := HW58.out
    have h2 := HZ8.out
    refine ⟨(ho9.lt e).1, ?_, (ho9.lt e).2⟩
    rcases hb9 with h | h
    · rw [h] at e; have := HL5.out g e; omega
    · rw [h] at e; injection e with e; omega)
  have HT9 := hid (HTT.out.keep EMail.ok hk9 fun k hk e => by have := HXX.out k hk; have := (HL5.out k e).1; omega)
  have hd9 := (hk9.cell (lt_of_cell hd8) (fun e => by have := (HL5.out bn e).1; have := HBN.out.1; omega)).trans hd8
  clear ho9 hk9 hb9 HO8 HR HV8 HTT hd8 hw8
  go_wp2_with (at_builtin; refine wpList_own_append (E := EMail) (ys := ms.drop (i + 1)) _ rfl (.tmp 38) (.tmp 45) EMail.ok ty_mail rfl rfl rfl HO9.out HT9.out ?d1 ?d2 ?d3 ?d4 ?_)
  case d1 =>
    intro g hg
    have h1 := HL9.out g hg
    exact ⟨fun h => by rcases h with h | h; have := HXX.out g h; omega; exact h1.2.1 h, fun h => by have := HXX.out g h; omega⟩
  case d2 => rw [hl9, htl]; omega
  case d3 => rw [hl9, htl]; simp only [maxLen]; omega
  case d4 => have := HS9.out; have := HZ8.out; have := HW58.out; have := HS05.out; omega
  intro v6 w6 ho6 hk6 hb6
  obtain ⟨A6, c6, e6, hc6, _⟩ := ho6.shape
  try rw [List.append_assoc, List.singleton_append] at ho6 e6 hc6
  have hl6 : (ms.take (i + 1) ++ m :: ms.drop (i + 1)).length = ms.length + 1 := by rw [List.length_append, hfl, List.length_cons, htl]; omega
  rw [hl6] at e6
  subst e6
  have HE6 := hid (show Ext w w6 from HE9.out.trans hk6 fun q hq e => by have := (HL9.out q e).1; omega)
  have HO6 := hid (ho6.more (S' := fun k => X0 k ∨ (w5.heap.size ≤ k ∧ k < w7.heap.size)) EMail.ok fun q _ h => by
    rcases h with h | h
    · exact h
    · first | exact h | exact .inl h)
  have HL6 := hid (show ∀ g, (Value.slice A6 (ms.length + 1) c6).ownBlock = some g → w.heap.size ≤ g ∧ ¬ (w5.heap.size ≤ g ∧ g < w7.heap.size) from fun g e => by
    have h1 := HW58.out
    have h2 := HZ8.out
    have h3 := HS9.out
    refine ⟨(ho6.lt e).1, ?_⟩
    rcases hb6 with h | h
    · rw [h] at e; exact (HL9.out g e).2.1
    · rw [h] at e; injection e with e; omega)
  have HB6 := hid (HB2.out.keep HE6.out id)
  have q0 := HB6.out.cell 0
  have q1 := HB6.out.frozen 0
  simp at q0
  obtain ⟨v3, hv3⟩ : ∃ v3, Value.slice A6 (ms.length + 1) c6 = v3 := ⟨_, rfl⟩
  rw [hv3] at HL6 HO6
  have hKF : Keep (fun k => k = bn) w6 (w6.setCell ⟨bn, 0, none⟩ v3) := (Keep.refl (fun k => k = bn) w6).set1 0 v3
  have hF : ∃ g', RnAt (w6.setCell ⟨bn, 0, none⟩ v3) (SOld w S (some gb) g') bn g' (ms.take (i + 1) ++ m :: ms.drop (i + 1)) ∧ (g' = none ∨ ∃ k, g' = some k ∧ w.heap.size ≤ k) ∧ Keep (NF bn (some gb)) w (w6.setCell ⟨bn, 0, none⟩ v3) := by
    have hbl := HBN.out.1
    have hgbr : gb < w.heap.size := (HBN.out.2 gb rfl).2
    have hnX : ¬ X0 bn := fun h => by
      rw [HX0E.out] at h
      rcases h with h | h
      · exact HNS.out.1 h.1
      · omega
    have hs := HS05.out
    have hSF : ∀ k, (X0 k ∨ (w5.heap.size ≤ k ∧ k < w7.heap.size)) → ¬ k = bn := fun k hk e => by
      subst e
      rcases hk with hk | hk
      · exact hnX hk
      · omega
    refine ⟨v3.ownBlock, ⟨v3, HB6.out.set_ 0 v3, rfl, ((HO6.out.keep EMail.ok hKF hSF fun k e e2 => ?_).less (by omega)).more EMail.ok fun k _ hk => ?_, ?_, fun k e h => h.2 e⟩, ?_, ?_⟩
    · have := (HL6.out k e).1; omega
    · refine ⟨?_, fun e => ?_⟩
      · rcases hk with hk | hk
        · rw [HX0E.out] at hk
          rcases hk with hk | hk
          · exact .inl ⟨.inl hk.1, hk.2⟩
          · exact .inl ⟨.inr (by rw [hk]), by omega⟩
        · exact .inr (by omega)
      · have h6 := HL6.out k e
        rcases hk with hk | hk
        · have := HXX.out k hk; omega
        · exact h6.2 hk
    · rintro ⟨(⟨h | h, _⟩ | h), _⟩
      · exact HNS.out.1 h
      · injection h with h; omega
      · omega
    · cases ho : v3.ownBlock with
      | none => exact .inl rfl
      | some k => exact .inr ⟨k, rfl, by have := (HL6.out k ho).1; omega⟩
    · refine (HE6.out.mono (G := NF bn (some gb)) fun _ _ x => x.elim).trans hKF fun k hk e => .inl e
  have H := hid hF
  clear hF hKF ho6 hk6 hb6 HO6 HL6 HB6 HE6 HO9 HT9 HL9 HE9 HE58 HE5 HL5 HE7 HW58 HZ8 HS05 HXX HX0E hst hd9 HBN HNS HSL HB2 hl6 hl9 hfl htl
  subst hv3
  go_wp2
  go_ret
  exact ⟨rfl, H.out⟩
end Go.Proofs.Ytjpbfdkpkeaofaa
