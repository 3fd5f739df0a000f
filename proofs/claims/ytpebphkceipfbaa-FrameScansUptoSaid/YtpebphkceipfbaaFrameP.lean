/- Frames one behind the other: what a scan of them, and of a front of them, finds (plain); the law's rows and heavy, by contract. -/
import Derived.Test.YtpebphkceipfbaaFrameT
import Derived.Test.YtpebphkceipfbaaFrameW
set_option linter.unusedSimpArgs false
set_option linter.unusedVariables false
namespace Go.Proofs.Ytpebphkceipfbaa
open Go.RowKit
set_option linter.unusedVariables false

def rowsL (ls : List (List UInt8)) : List UInt8 := (ls.map frm).flatten
theorem rowsL_cons (x : List UInt8) (ls : List (List UInt8)) : rowsL (x :: ls) = frm x ++ rowsL ls := rfl
theorem rowsL_snoc (ls : List (List UInt8)) (x : List UInt8) : rowsL (ls ++ [x]) = rowsL ls ++ frm x := by simp [rowsL]
theorem openL_nil : openL [] = none := by unfold openL; rw [if_pos (by simp)]
theorem scan_rows : ∀ ls : List (List UInt8), (∀ x ∈ ls, x.length ≤ 60000) → scanL (rowsL ls) = (ls, (rowsL ls).length)
  | [], _ => by rw [show rowsL [] = [] from rfl, scanL_none openL_nil]; rfl
  | x :: ls, h => by
    have h1 := scan_rows ls fun y hy => h y (List.mem_cons_of_mem _ hy)
    have h0 := openL_frm x (rowsL ls) (h x List.mem_cons_self)
    rw [rowsL_cons, scanL_some h0, show (frm x ++ rowsL ls).drop (8 + x.length) = rowsL ls from List.drop_left' (frm_length x), h1, List.length_append, frm_length]
theorem openL_cut (x r : List UInt8) (k : Nat) (hx : x.length ≤ 60000) (hk : k < 8 + x.length) : openL ((frm x ++ r).take k) = none := by
  have hl : ((frm x ++ r).take k).length = k := by rw [List.length_take, List.length_append, frm_length]; omega
  unfold openL
  by_cases h8 : k < 8
  · rw [if_pos (by omega)]
  · rw [if_neg (by omega)]
    have hn : numL ((frm x ++ r).take k) = x.length := by
      obtain ⟨q, hq⟩ : ∃ q, k = 4 + q := ⟨k - 4, by omega⟩
      have : (frm x ++ r).take k = fourL x.length ++ ((fourL (sumOf (fourL x.length ++ x)).toNat ++ x) ++ r).take q := by
        unfold frm
        rw [List.append_assoc, hq, show 4 + q = (fourL x.length).length + q from by rw [fourL_length], List.take_length_add_append]
      rw [this]; exact numL_four _ (by omega) _
    rw [hn, hl, if_pos (by omega)]
theorem scan_cut : ∀ (ls : List (List UInt8)) (k : Nat), (∀ x ∈ ls, x.length ≤ 60000) → ∃ j, j ≤ ls.length ∧ scanL ((rowsL ls).take k) = (ls.take j, (rowsL (ls.take j)).length) ∧ (rowsL (ls.take j)).length ≤ k
  | [], k, _ => ⟨0, Nat.le_refl _, by rw [show rowsL [] = [] from rfl, List.take_nil, scanL_none openL_nil]; rfl, Nat.zero_le _⟩
  | x :: ls, k, h => by
    have hx := h x List.mem_cons_self
    by_cases hk : k < 8 + x.length
    · refine ⟨0, Nat.zero_le _, ?_, Nat.zero_le _⟩
      rw [rowsL_cons, scanL_none (openL_cut x _ k hx hk)]; rfl
    · obtain ⟨q, hq⟩ : ∃ q, k = (8 + x.length) + q := ⟨k - (8 + x.length), by omega⟩
      obtain ⟨j, h1, h2, h3⟩ := scan_cut ls q fun y hy => h y (List.mem_cons_of_mem _ hy)
      have ht : (rowsL (x :: ls)).take k = frm x ++ (rowsL ls).take q := by rw [rowsL_cons, hq, ← frm_length x, List.take_length_add_append]
      refine ⟨j + 1, by rw [List.length_cons]; omega, ?_, ?_⟩
      · rw [ht, scanL_some (openL_frm x _ hx), show (frm x ++ (rowsL ls).take q).drop (8 + x.length) = (rowsL ls).take q from List.drop_left' (frm_length x), h2, List.take_succ_cons, rowsL_cons, List.length_append, frm_length]
      · rw [List.take_succ_cons, rowsL_cons, List.length_append, frm_length]; omega
def lensL (ls : List (List UInt8)) : Nat := (ls.map fun x => x.length + 8).sum
theorem lensL_snoc (ls : List (List UInt8)) (x : List UInt8) : lensL (ls ++ [x]) = lensL ls + (x.length + 8) := by simp [lensL]
theorem lensL_rows : ∀ ls : List (List UInt8), (rowsL ls).length = lensL ls
  | [] => rfl
  | x :: ls => by rw [rowsL_cons, List.length_append, frm_length, lensL_rows ls]; simp [lensL]; omega
theorem lensL_mem : ∀ (ls : List (List UInt8)) (x : List UInt8), x ∈ ls → x.length + 8 ≤ lensL ls
  | y :: ls, x, h => by
    simp only [lensL, List.map_cons, List.sum_cons]
    rcases List.mem_cons.1 h with rfl | h
    · omega
    · have := lensL_mem ls x h; simp only [lensL] at this; omega
theorem lensL_len : ∀ ls : List (List UInt8), 8 * ls.length ≤ lensL ls
  | [] => Nat.zero_le _
  | x :: ls => by have := lensL_len ls; simp only [lensL, List.map_cons, List.sum_cons, List.length_cons] at *; omega
theorem lensL_append (a b : List (List UInt8)) : lensL (a ++ b) = lensL a + lensL b := by simp [lensL]
theorem lensL_take (ls : List (List UInt8)) (j : Nat) : lensL (ls.take j) ≤ lensL ls := by
  have e : lensL ls = lensL (ls.take j) + lensL (ls.drop j) := by rw [← lensL_append, List.take_append_drop]
  omega
theorem lensL_le (ls : List (List UInt8)) (R : Nat) (h : ∀ x ∈ ls, x.length ≤ R) : lensL ls ≤ ls.length * (R + 8) := by
  induction ls with
  | nil => simp [lensL]
  | cons x ls ih =>
    have h1 := ih fun y hy => h y (List.mem_cons_of_mem _ hy)
    have h2 := h x List.mem_cons_self
    simp only [lensL, List.map_cons, List.sum_cons, List.length_cons] at *
    rw [Nat.add_mul]; omega

set_option maxHeartbeats 800000 in
theorem heavy_ok (w : World) (S : BS) (v : Value) (ls : List (List UInt8)) (h : Sl EBytes w S v ls) (hn : ls.length ≤ 1048576) (hR : ∀ x ∈ ls, x.length ≤ 1048576) :
    Calls Try.prog 16 #[v] w fun e w' => ((e = .returned (.bool true) ∧ 3000 < lensL ls) ∨ (e = .returned (.bool false) ∧ lensL ls ≤ 3000)) ∧ w = w' := by
  obtain ⟨A, c, rfl, hlc, hcm⟩ := h.shape
  unfold maxLen at hcm
  have HA := hid h
  have HR := hid hR
  generalize hn' : ls.length = n at *
  have HN := hid hn'
  clear h hn' hR
  go_enter Try.func16, Try.ntmps16
  go_wp2
  go_loop [3, 4] (fun x i => ∃ (j : Nat), j ≤ n ∧ i = .int .i64 j ∧ x = .int .i64 (lensL (ls.take j) : Nat)) (fun _ i => n - (intOf i).toNat)
  case atStart => exact ⟨0, by omega, rfl, rfl⟩
  case round =>
    obtain ⟨j, hj, rfl, rfl⟩ := hrel
    by_cases hlt : j < n
    · have hjm : j < ls.length := by rw [HN.out]; exact hlt
      have hw := lensL_le (ls.take j) 1048576 fun x hx => HR.out x (List.mem_of_mem_take hx)
      have hm1 := HR.out ls[j] (List.getElem_mem _)
      have hts := take_succ_get ls j hjm
      obtain ⟨b1, o1, c1, rfl, _, _, ⟨v1, rfl, hv1⟩, hc1⟩ := HA.out.at_ EBytes.ok hjm
      generalize hm : ls[j]'hjm = m at *
      have e0 := hc1 0 _ rfl
      simp only [show EBytes.size = 1 from rfl, Nat.mul_one, Nat.add_zero] at e0
      obtain ⟨A1, d1, rfl, _⟩ := hv1.shape
      have HS := hid (show lensL (ls.take (j + 1)) = lensL (ls.take j) + (m.length + 8) from by rw [hts, lensL_snoc])
      have hwl : lensL (ls.take j) ≤ 1048576 * 1048584 := by
        have h1 : (ls.take j).length ≤ 1048576 := by rw [List.length_take]; omega
        have := Nat.mul_le_mul_right (1048576 + 8) h1
        exact Nat.le_trans hw this
      generalize lensL (ls.take j) = s at *
      clear hc1 hm hv1 hts hw
      go_wp2
      go_round
      case rel => exact ⟨j + 1, by omega, by go_num, by rw [HS.out]; go_num⟩
      case measure => simp [intOf]; omega
    · obtain rfl : j = n := by omega
      have hall : ls.take j = ls := List.take_of_length_le (by rw [HN.out]; exact Nat.le_refl _)
      rw [hall]
      generalize hs0 : lensL ls = s at *
      have HS0 := hid hs0
      clear hs0
      by_cases hs : 3000 < s
      · have hsi : (3000 : Int) < s := by omega
        go_wp2
        go_ret
        exact ⟨.inl ⟨by simp [hsi], by rw [HS0.out]; exact hs⟩, rfl⟩
      · have hsi : ¬ (3000 : Int) < s := by omega
        go_wp2
        go_ret
        exact ⟨.inr ⟨by simp [hsi], by rw [HS0.out]; omega⟩, rfl⟩

set_option maxHeartbeats 1600000 in
theorem rows_ok (w : World) (S : BS) (v : Value) (ls : List (List UInt8)) (h : Sl EBytes w S v ls) (hs : lensL ls ≤ 3000) :
    Calls Try.prog 17 #[v] w fun e w' => ∃ v', e = .returned v' ∧ Own EU8 w' w.heap.size 5 (fun _ => False) v' (rowsL ls) ∧ Ext w w' := by
  obtain ⟨A, c, rfl, hlc, hcm⟩ := h.shape
  unfold maxLen at hcm
  have HA := hid (h.more (S' := fun _ => True) EBytes.ok fun _ _ _ => trivial)
  have HM := hid (fun x hx => lensL_mem ls x hx)
  have hln := lensL_len ls
  generalize hn' : ls.length = n at *
  have HN := hid hn'
  have HL := hid hs
  clear h hn' hs
  go_enter Try.func17, Try.ntmps17
  go_wp2
  go_loopw [3, 4] (fun o i wr => ∃ (j : Nat), j ≤ n ∧ i = .int .i64 j ∧ Own EU8 wr w.heap.size 5 (fun _ => False) o (rowsL (ls.take j)) ∧ Ext w wr) (fun _ i _ => n - (intOf i).toNat)
  case atStart => exact ⟨0, by omega, rfl, Own.nil _ _ _ _, Keep.refl _ _⟩
  case round =>
    obtain ⟨j, hj, rfl, ho, hE⟩ := hrel
    obtain ⟨Ao, co, rfl, _, _⟩ := ho.shape
    by_cases hlt : j < n
    · have hjm : j < ls.length := by rw [HN.out]; exact hlt
      obtain ⟨b1, o1, c1, rfl, _, _, ⟨v1, rfl, hv1⟩, hc1⟩ := (HA.out.ext EBytes.ok hE).at_ EBytes.ok hjm
      have hml := HM.out _ (List.getElem_mem hjm)
      have hts := take_succ_get ls j hjm
      have htl : lensL (ls.take j) ≤ 3000 := Nat.le_trans (lensL_take ls j) HL.out
      generalize hm : ls[j]'hjm = m at *
      have e0 := hc1 0 _ rfl
      simp only [show EBytes.size = 1 from rfl, Nat.mul_one, Nat.add_zero] at e0
      obtain ⟨A1, d1, rfl, _⟩ := hv1.shape
      have HR := hid (show rowsL (ls.take (j + 1)) = rowsL (ls.take j) ++ frm m from by rw [hts, rowsL_snoc])
      have HV := hid hv1
      have HE := hid hE
      have HO := hid ho
      have hsl := HL.out
      have HRL := hid (lensL_rows (ls.take j))
      have HLT := hid (fun g (e : (Value.slice Ao (rowsL (ls.take j)).length co).ownBlock = some g) => ho.lt e)
      clear hc1 hm hv1 hts ho hE
      go_wp2_with fail
      refine (ref_wrap_ok _ _ _ _ HV.out (by omega)).mono ?_
      rintro e w1 ⟨v2, rfl, ho2, hE2⟩
      obtain ⟨A2, c2, rfl, _⟩ := ho2.shape
      have HN2 := hid (own_new ho2)
      have HO1 := hid (HO.out.ext EU8.ok hE2)
      have HE1 := hid (HE.out.ext hE2)
      have hz2 := hE2.size
      have HFL := hid (frm_length m)
      clear ho2 hE2
      generalize hrr : rowsL (ls.take j) = rr at *
      clear hrr
      go_wp2_with (at_builtin; refine wpList_append_bytes rfl (.tmp 21) (.tmp 22) ty_u8 rfl rfl rfl HO1.out HN2.out ?c1 ?c2 ?c3 ?_)
      case c1 => intro g hg h; have := (HLT.out g hg).2; omega
      case c2 => have := HFL.out; have := HRL.out; omega
      case c3 => exact HE1.out.size
      intro A5 c5 w5 hown5 hc5 hc5' hk5
      have HE5 := hid (HE1.out.trans hk5 fun k hk e => by have := (HLT.out k e).1; omega)
      rw [← HR.out] at hown5
      have HO5 := hid hown5
      rw [show rr.length + (frm m).length = (rowsL (ls.take (j + 1))).length from by rw [HR.out, List.length_append]] at HO5 ⊢
      clear hown5 hk5 HN2 HO1 HE1
      go_wp2
      exact ⟨⟨j + 1, by omega, by go_num, HO5.out, HE5.out⟩, by simp [intOf]; omega⟩
    · obtain rfl : j = n := by omega
      have hall : ls.take j = ls := List.take_of_length_le (by rw [HN.out]; exact Nat.le_refl _)
      rw [hall] at ho ⊢
      have HO := hid ho
      have HE := hid hE
      clear ho hE
      go_wp2
      go_ret
      exact ⟨_, rfl, HO.out, HE.out⟩
end Go.Proofs.Ytpebphkceipfbaa
