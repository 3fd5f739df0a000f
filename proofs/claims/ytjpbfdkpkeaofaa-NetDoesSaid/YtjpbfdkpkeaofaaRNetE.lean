/- The reference's network: Cut. -/
import Derived.Test.YtjpbfdkpkeaofaaRNetD
set_option linter.unusedSimpArgs false
set_option linter.unusedVariables false
namespace Go.Proofs.Ytjpbfdkpkeaofaa
open Go.RowKit
set_option linter.unusedVariables false

set_option maxRecDepth 20000 in
set_option maxHeartbeats 1600000 in
theorem rcut_ok (w : World) (S : BS) (bn : Nat) (g : Option Nat) (ms : List Mail) (s : Int) (h : RnAt w S bn g ms) (hm20 : ms.length ≤ 2000) :
    Calls Try.prog 28 #[.pointer (some ⟨bn, 0, none⟩), .int .i64 s] w fun e w' =>
      e = .returned (.int .i64 ((ms.length : Int) - ((ms.filter (other s)).length : Int))) ∧ ∃ g', RnAt w' (SOld w S g g') bn g' (ms.filter (other s)) ∧ (g' = none ∨ ∃ k, g' = some k ∧ w.heap.size ≤ k) ∧ Keep (NF bn g) w w' := by
  have HBN := hid h.lt
  have HNS := hid h.notS
  have HM20 := hid hm20
  have hn1 := h.cutS
  clear h hm20
  obtain ⟨va, hb, rfl, hown, hSb, hSg⟩ := hn1
  obtain ⟨A0, c0, rfl, hlc, hcm⟩ := hown.shape
  unfold maxLen at hcm
  have HSL := hid ((hown.sl EMail.ok).more (S' := fun k => (S k ∨ (Value.slice A0 ms.length c0).ownBlock = some k) ∧ k < w.heap.size) EMail.ok fun k hk h => ⟨h.imp (·.1) id, hk⟩)
  have HB := hid hb
  have HCM := hid hcm
  have d0 := hb.cell 0
  simp at d0
  clear hb hown hSb hSg hcm
  obtain ⟨n, hn⟩ : ∃ n, ms.length = n := ⟨_, rfl⟩
  obtain ⟨g0, hg0⟩ : ∃ g0, (Value.slice A0 ms.length c0).ownBlock = g0 := ⟨_, rfl⟩
  rw [hg0] at HBN HNS HSL ⊢
  rw [hn] at HSL HB HM20 hlc d0 ⊢
  have HN := hid hn
  have hn20 : n ≤ 2000 := HM20.out
  clear hn hg0
  go_enter Try.func28, Try.ntmps28
  go_wp2_with fail
  go_loopw [5, 6] (fun v y wr => ∃ (j : Nat), j ≤ n ∧ y = .int .i64 j ∧ Own EMail wr w.heap.size TMAIL (fun k => (S k ∨ g0 = some k) ∧ k < w.heap.size) v ((ms.take j).filter (other s)) ∧ Ext w wr) (fun _ y _ => n - (intOf y).toNat)
  case atStart => exact ⟨0, by omega, rfl, Own.nil _ _ _ _, Keep.refl _ _⟩
  case round =>
    obtain ⟨j, hj, rfl, hO, hE⟩ := hrel
    have HE := hid hE
    have hd := (hE.cell (lt_of_cell d0) id).trans d0
    obtain ⟨A1, c1, rfl, hl1, hc1⟩ := hO.shape
    have HO := hid hO
    clear hE hO
    by_cases hlt : j < n
    · have hjl : j < ms.length := by rw [HN.out]; exact hlt
      obtain ⟨b7, o7, cc, rfl, hb7, hl7, hr7, hcc7⟩ := (HSL.out.ext EMail.ok HE.out).at_ EMail.ok (k := j) hjl
      have hts : ms.take (j + 1) = ms.take j ++ [ms[j]] := List.take_succ_eq_append_getElem hjl
      generalize ms[j]'hjl = m at *
      obtain ⟨bv7, rfl, hv7⟩ := hr7
      have e0 := hcc7 0 _ rfl
      have e1 := hcc7 1 _ rfl
      have e2 := hcc7 2 _ rfl
      have hz3 : EMail.size = 3 := rfl
      simp only [hz3, Nat.add_zero] at e0 e1 e2
      obtain ⟨A7, d7, rfl, _⟩ := hv7.shape
      have HV7 := hid hv7
      have HTS := hid hts
      have hX : (j : Int) < n := by omega
      clear hz3 hcc7 hv7 hts
      by_cases hs : m.sess = s
      · have hsX : (m.sess != s) = false := by simp [hs]
        have HF := hid (show (ms.take (j + 1)).filter (other s) = (ms.take j).filter (other s) from by
          rw [HTS.out, List.filter_append]; simp [other, hs])
        have HO2 := hid (show Own EMail wr w.heap.size TMAIL (fun k => (S k ∨ g0 = some k) ∧ k < w.heap.size) (.slice A1 ((ms.take j).filter (other s)).length c1) ((ms.take (j + 1)).filter (other s)) from by rw [HF.out]; exact HO.out)
        clear hs
        go_wp2
        exact ⟨⟨j + 1, by omega, by go_num, HO2.out, HE.out⟩, by simp [intOf]; omega⟩
      · have hsX : (m.sess != s) = true := by simp [hs]
        have HF := hid (show (ms.take (j + 1)).filter (other s) = (ms.take j).filter (other s) ++ [m] from by
          rw [HTS.out, List.filter_append]; simp [other, hs])
        have HLE := hid (show ((ms.take j).filter (other s)).length ≤ j from Nat.le_trans (List.length_filter_le _ _) (by rw [List.length_take]; omega))
        generalize hfs : (ms.take j).filter (other s) = fs at *
        have hE8 : Ext wr (wr.alloc (.cells #[.int .i64 m.sess, .bool m.up, .slice A7 m.b.length d7] TMAIL)) := (Keep.refl _ _).alloc _
        have hrow : RowS (wr.alloc (.cells #[.int .i64 m.sess, .bool m.up, .slice A7 m.b.length d7] TMAIL)) (fun k => k = wr.heap.size) 3 (.slice (some ⟨wr.heap.size, 0, none⟩) 1 1) 1 [.int .i64 m.sess, .bool m.up, .slice A7 m.b.length d7] :=
          RowS.new (w := wr) (sz := 3) (cs := [_, _, _]) (n := 1) rfl (by simp [maxLen])
        obtain ⟨w8, hw8⟩ : ∃ w8, wr.alloc (.cells #[.int .i64 m.sess, .bool m.up, .slice A7 m.b.length d7] TMAIL) = w8 := ⟨_, rfl⟩
        rw [hw8] at hE8 hrow
        have HR := hid hrow
        have HE8 := hid (HE.out.ext hE8)
        have HO8 := hid (HO.out.ext EMail.ok hE8)
        have HV8 := hid (HV7.out.ext EU8.ok hE8)
        clear hrow hE8 hs hfs HO
        go_wp2_with (at_builtin; refine wpList_own_append2 (P := Try.prog) (E := EMail) (v := .slice A1 fs.length c1) (ys := [m]) _ rfl (.tmp 27) (.tmp 35) EMail.ok ty_mail rfl rfl rfl HO8.out HR.out (Cells.single ⟨_, rfl, HV8.out⟩) ?f1 ?f2 ?f3 ?f4 ?_)
        case f1 => exact fun g e => ⟨fun h => by have := (HO8.out.lt e).1; omega, fun h => by have := (HO8.out.lt e).1; omega⟩
        case f2 => have := HLE.out; have := HM20.out; simp; omega
        case f3 => have := HLE.out; have := HM20.out; simp [maxLen]; omega
        case f4 => exact HE8.out.size
        intro v9 w9 ho9 hk9 hb9
        have HE9 := hid (HE8.out.trans hk9 fun q hq e => by have := (HO8.out.lt e).1; omega)
        have HO9 := hid (ho9.more (S' := fun k => (S k ∨ g0 = some k) ∧ k < w.heap.size) EMail.ok fun q _ h => by first | exact h | exact Or.elim h id id)
        rw [← HF.out] at HO9
        clear ho9 hk9 hb9 HO8 HR HV8 HE8
        go_wp2
        exact ⟨⟨j + 1, by omega, by go_num, HO9.out, HE9.out⟩, by simp [intOf]; omega⟩
    · obtain rfl : j = n := by omega
      have hX : ¬ (j : Int) < j := by omega
      have HFL := hid (show ms.take j = ms from List.take_of_length_le (by rw [HN.out]; omega))
      rw [HFL.out] at HO hl1 ⊢
      have hfl : (ms.filter (other s)).length ≤ j := by rw [← HN.out]; exact List.length_filter_le _ _
      obtain ⟨v3, hv3⟩ : ∃ v3, Value.slice A1 (ms.filter (other s)).length c1 = v3 := ⟨_, rfl⟩
      have HO3 : Hid (Own EMail wr w.heap.size TMAIL (fun k => (S k ∨ g0 = some k) ∧ k < w.heap.size) v3 (ms.filter (other s))) := hid (by rw [← hv3]; exact HO.out)
      have HB6 := hid (HB.out.keep HE.out id)
      have q1 := HB6.out.frozen 0
      have hKF : Keep (fun k => k = bn) wr (wr.setCell ⟨bn, 0, none⟩ v3) := (Keep.refl (fun k => k = bn) wr).set1 0 v3
      have hF : ∃ g', RnAt (wr.setCell ⟨bn, 0, none⟩ v3) (SOld w S g0 g') bn g' (ms.filter (other s)) ∧ (g' = none ∨ ∃ k, g' = some k ∧ w.heap.size ≤ k) ∧ Keep (NF bn g0) w (wr.setCell ⟨bn, 0, none⟩ v3) := by
        have hbl := HBN.out.1
        have hSF : ∀ k, ((S k ∨ g0 = some k) ∧ k < w.heap.size) → ¬ k = bn := fun k hk e => by
          subst e
          rcases hk.1 with h | h
          · exact HNS.out.1 h
          · have := HBN.out.2 k h; omega
        refine ⟨v3.ownBlock, ⟨v3, HB6.out.set_ 0 v3, rfl, ((HO3.out.keep EMail.ok hKF hSF fun k e e2 => ?_).less (by omega)).more EMail.ok fun k _ hk => ?_, ?_, fun k e h => h.2 e⟩, ?_, ?_⟩
        · have := (HO3.out.lt e).1; omega
        · exact ⟨.inl hk, fun e => by have := (HO3.out.lt e).1; omega⟩
        · rintro ⟨(h | h), _⟩
          · exact hSF bn h rfl
          · omega
        · cases ho : v3.ownBlock with
          | none => exact .inl rfl
          | some k => exact .inr ⟨k, rfl, (HO3.out.lt ho).1⟩
        · exact (HE.out.mono (G := NF bn g0) fun _ _ x => x.elim).trans hKF fun k hk e => .inl e
      have H := hid hF
      clear hF hKF HO3 HO HB6 HB HFL HSL HNS HBN HE d0
      subst hv3
      go_wp2
      go_ret
      exact ⟨by first | rfl | (simp; done) | (congr 2; omega), H.out⟩
end Go.Proofs.Ytjpbfdkpkeaofaa
