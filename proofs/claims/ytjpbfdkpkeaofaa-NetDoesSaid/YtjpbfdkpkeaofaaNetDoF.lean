/- The law's does: Send. -/
import Derived.Test.YtjpbfdkpkeaofaaNetDoE
set_option linter.unusedSimpArgs false
set_option linter.unusedVariables false
namespace Go.Proofs.Ytjpbfdkpkeaofaa
open Go.RowKit
set_option linter.unusedVariables false

set_option maxRecDepth 20000 in
set_option maxHeartbeats 3200000 in
theorem does_send (w0 w : World) (bn rn : Nat) (g1 g2 : Option Nat) (ms : List Mail) (k : UInt8) (sess : Int) (up : Bool) (A : Option Addr) (n c : Nat) (z : Int) (b : List UInt8) (S2 : BS) (hbs : BytesS w S2 (.slice A n c) b) (hS2 : ∀ k, S2 k → k < w0.heap.size) (q : Nat) (hq : q < 3) (hk : k.toNat % 9 = q) (hm20 : ms.length < 2000) (hb6 : b.length ≤ 60000) (h : Pair w0 w bn rn g1 g2 ms ms) :
    Calls Try.prog 14 #[.pointer (some ⟨bn, 0, none⟩), .pointer (some ⟨rn, 0, none⟩), .agg #[U8 k, .int .i64 sess, .bool up, .slice A n c, .int .i64 z]] w (DoneN w0 bn rn (ms ++ [⟨sess, up, b⟩])) := by
  obtain ⟨W, hW⟩ : ∃ W, w.alloc (.cells #[U8 k, .int .i64 sess, .bool up, .slice A n c, .int .i64 z] 30) = W := ⟨_, rfl⟩
  have hE : Ext w W := by rw [← hW]; exact (Keep.refl _ _).alloc _
  have hb : Blk W w.heap.size 30 #[U8 k, .int .i64 sess, .bool up, .slice A n c, .int .i64 z] := by rw [← hW]; exact Blk.new _ _ _
  have q0 := hb.cell 0
  have q3 := hb.cell 1
  simp only [List.getElem?_toArray, List.getElem?_cons_succ, List.getElem?_cons_zero] at q0 q3
  have HT := hid (h.more hE)
  have HL := hid HT.out.lw
  have HQ3 := hid q3
  have HLO := hid (show ¬ (NF bn g1 w.heap.size ∨ NF rn g2 w.heap.size) from fun hb => by
    have h1 := h.net.lt
    have h2 := h.ref.lt
    rcases hb with (h | h) | h | h
    · omega
    · have := (h1.2 _ h).2; omega
    · omega
    · have := (h2.2 _ h).2; omega)
  have hkz : ((k.toNat : Int)).tmod 9 = (q : Int) := by rw [Int.tmod_eq_emod_of_nonneg (by omega)]; omega
  have hkz2 : (k.toNat : Int) % 9 = (q : Int) := by omega
  have q4 := hb.cell 2
  have q5 := hb.cell 3
  simp only [List.getElem?_toArray, List.getElem?_cons_succ, List.getElem?_cons_zero] at q4 q5
  have HQ4 := hid q4
  have HQ5 := hid q5
  obtain ⟨A', c', e', hlc, hcm⟩ := hbs.shape
  injection e' with e1 e2 e3
  subst e1 e2 e3
  unfold maxLen at hcm
  have HBS := hid (hbs.ext EU8.ok hE)
  have HS2 := hid hS2
  have HM := hid hm20
  have HB6 := hid hb6
  have HWW := hid hE.size
  have g3 : ¬ (q : Int) = 3 := by omega
  have g4 : ¬ (q : Int) = 4 := by omega
  have g5 : ¬ (q : Int) = 5 := by omega
  have g6 : ¬ (q : Int) = 6 := by omega
  have g7 : ¬ (q : Int) = 7 := by omega
  have g8 : ¬ (q : Int) = 8 := by omega
  clear h hE hb hbs hS2 hm20 hb6 hk hq
  obtain ⟨n1, hn1⟩ : ∃ n1, b.length = n1 := ⟨_, rfl⟩
  have HN1 := hid hn1
  rw [hn1] at q5 HQ5 HBS hlc hW ⊢
  clear hn1
  go_enter Try.func14, Try.ntmps14
  go_wp2_with (at_builtin; refine wpList_own_append (v := .slice none 0 0) (y := .slice A n1 c) (xs := []) (ys := b) (base := W.heap.size) (S := fun _ => False) _ rfl (.tmp 126) (.tmp 128) EU8.ok ty_u8 rfl rfl rfl (Own.nil _ _ _ _) HBS.out ?c1 ?c2 ?c3 ?c4 ?_)
  case c1 => intro g hg; cases hg
  case c2 => have := HB6.out; simp; omega
  case c3 => have := HB6.out; simp [maxLen]; omega
  case c4 => exact Nat.le_refl _
  intro v4 w1 hown hk1 hb1
  have hown := hown.more (S' := fun _ => True) EU8.ok fun _ _ _ => trivial
  obtain ⟨A4, c4, rfl, hlc4, hcm4⟩ := hown.shape
  unfold maxLen at hcm4
  rw [HN1.out] at hown hlc4 ⊢
  have hE1 : Ext W w1 := hk1.mono fun k _ h => by cases h
  have HOG := hid (show ∀ g, A4 = some ⟨g, 0, none⟩ → W.heap.size ≤ g ∧ g < w1.heap.size from fun g e => by subst e; exact hown.lt rfl)
  have HMU := hid (MutIs.of_own hown HN1.out.symm)
  have HOW := hid (hown.sl EU8.ok)
  have HE1 := hid hE1
  replace q3 := (hE1.cell (lt_of_cell q3) id).trans q3
  replace q4 := (hE1.cell (lt_of_cell q4) id).trans q4
  replace q5 := (hE1.cell (lt_of_cell q5) id).trans q5
  clear hown hk1 hb1 hE1 q0
  go_wp2_with fail
  refine (send_yes w1 _ _ bn g1 ms ⟨sess, up, b⟩ _ (HT.out.net.cutS.ext HE1.out) HOW.out HM.out HB6.out).mono ?_
  rintro e w2 ⟨rfl, g', hn, hg, hk⟩
  have HN := hid hn
  have HG := hid hg
  have HK := hid hk
  have hs01 := HE1.out.size
  have hs12 := hk.size
  have hnf : ∀ k, NF bn g1 k → k < W.heap.size ∧ k ≠ w.heap.size := fun k h => by
    refine ⟨?_, fun e => HLO.out (.inl (e ▸ h))⟩
    rcases h with h | h
    · have := HL.out.bn; omega
    · exact HL.out.g1 k h
  have HNF := hid hnf
  replace q3 := (hk.cell (lt_of_cell q3) (fun h => (hnf _ h).2 rfl)).trans q3
  replace q4 := (hk.cell (lt_of_cell q4) (fun h => (hnf _ h).2 rfl)).trans q4
  replace q5 := (hk.cell (lt_of_cell q5) (fun h => (hnf _ h).2 rfl)).trans q5
  replace HMU := hid (HMU.out.keep hk fun g e h => by have := (hnf g h).1; have := (HOG.out g e).1; omega)
  have HS12 := hid hs12
  have HS01 := hid hs01
  have hn60 : n1 ≤ 60000 := by rw [← HN1.out]; exact HB6.out
  clear hn hg hk hs12 hs01 hnf HOW
  go_wp2_with fail
  go_loopw [16] (fun y wr => ∃ j : Nat, j ≤ n1 ∧ y = .int .i64 j ∧ MutIs wr A4 n1 ∧ Keep (fun k => A4 = some ⟨k, 0, none⟩) w2 wr) (fun y _ => n1 - (intOf y).toNat)
  case atStart => exact ⟨0, by omega, rfl, HMU.out, Keep.refl _ _⟩
  case round =>
    obtain ⟨j, hj, rfl, hmu, hk⟩ := hrel
    by_cases hlt : j < n1
    · obtain ⟨g, cur, rfl, hblk, hcs⟩ := hmu (by omega)
      obtain ⟨z, hz⟩ := hcs j hlt
      have qq := hblk.cell j
      rw [hz] at qq
      have hzf := hblk.frozen
      have HM2 := hid (fun y : Int => MutIs.store hblk hcs j y)
      have HK2 := hid hk
      have hjX : (j : Int) < n1 := by omega
      clear hblk hcs hz hk hmu q3 q4 q5
      go_wp2
      exact ⟨⟨j + 1, by omega, by go_num, HM2.out _, HK2.out.trans ((Keep.refl (· = g) _).set1 j _) fun k _ e => by subst e; rfl⟩, by simp [intOf]; omega⟩
    · have hjX : ¬ (j : Int) < n1 := by omega
      have hwb : ∀ k, A4 = some ⟨k, 0, none⟩ → W.heap.size ≤ k ∧ k < w1.heap.size := HOG.out
      have hlw : w.heap.size < W.heap.size := lt_of_cell HQ3.out
      replace q3 := (hk.cell (lt_of_cell q3) (fun h => by have := (hwb _ h).1; simp at this; omega)).trans q3
      replace q4 := (hk.cell (lt_of_cell q4) (fun h => by have := (hwb _ h).1; simp at this; omega)).trans q4
      replace q5 := (hk.cell (lt_of_cell q5) (fun h => by have := (hwb _ h).1; simp at this; omega)).trans q5
      have hKW : Keep (NF bn g1) W wr := ((Keep.mono HE1.out fun _ _ x => x.elim : Keep (NF bn g1) W w1).trans HK.out fun k _ h => h).trans hk fun k hk h => by have := (hwb k h).1; omega
      have hn3 := HN.out.keep hk (fun k h e => by
        have h2 := hwb k e
        rcases h with h | h
        · have := h.1.2; omega
        · omega) (fun k h e => by
        have h2 := hwb k e
        rcases h with h | h
        · have := HL.out.bn; omega
        · rcases HG.out with h3 | ⟨r, h3, h4⟩
          · have := HL.out.g1 k (h3 ▸ h); omega
          · rw [h3] at h; injection h with h; omega)
      have HP := hid (HT.out.stepN hKW hn3 (fun k e => by
        rcases HG.out with h3 | ⟨r, h3, h4⟩
        · exact .inl (h3 ▸ e)
        · rw [h3] at e; injection e with e; have := HS01.out; exact .inr (by omega)) fun k _ h => by
        rcases h with h | h
        · exact .inl h.1
        · have := HS01.out; exact .inr (by omega))
      have HB2 := hid (HBS.out.keep EU8.ok hKW fun k h e => by
        have h0 := HS2.out k h
        have h1 := HT.out.low
        rcases e with rfl | e
        · omega
        · have := h1.2.2.1 k e; omega)
      clear hk hmu hKW hn3 HMU HOG HN HG HK
      go_wp2_with fail
      refine (rsend_yes wr _ _ rn g2 ms ⟨sess, up, b⟩ _ HP.out.ref HB2.out HM.out HB6.out).mono ?_
      rintro e w4 ⟨rfl, a2, hr, hg, hk⟩
      have HPP := hid (HP.out.stepR2 hk hr hg)
      clear hr hg hk q3 q4 q5 HP HB2
      go_wp2
      go_ret
      exact ⟨rfl, _, _, HPP.out⟩
end Go.Proofs.Ytjpbfdkpkeaofaa
