/- seq.Do of any flat component; the law's 'done'; components as elements. -/
import Derived.Test.YtimhfkllamimeaaSeqN
import Derived.Test.YtimhfkllamimeaaSeqQ
set_option linter.unusedSimpArgs false
set_option linter.unusedVariables false
namespace Go.Proofs.Ytimhfkllamimeaa
open Go.RowKit

/-- A component's cells, of which the value is flat. -/
def cmCells (k : UInt8) (i j : Int) (vk : UInt8) (vn : Int) : List Value := [U8 k, .slice none 0 0, .string ⟨#[]⟩, .int .i64 i, .int .i64 j, .int .i64 0, U8 vk, .int .i64 vn, .string ⟨#[]⟩, .slice none 0 0, .slice none 0 0, .string ⟨#[]⟩]
def Flat (l : List V) : Prop := ∀ x ∈ l, ∃ k n, x = nV k n
def ECm : El (Cm V) := { size := 12, rd := fun _ _ cs c => ∃ vk vn, c.x = nV vk vn ∧ cs = cmCells c.k c.i c.j vk vn }
theorem ECm.ok : ECm.Ok where
  pos := by decide
  len := fun ⟨vk, vn, _, h⟩ => by subst h; rfl
  one := fun ⟨vk, vn, _, h⟩ u hu => by
    subst h
    simp [cmCells] at hu
    rcases hu with rfl | rfl | rfl | rfl | rfl | rfl | rfl | rfl | rfl | rfl | rfl <;> rfl
  keep := fun h _ _ => h
  more := fun h _ => h
theorem flat_sizes : ∀ {l : List V}, Flat l → V.sizes l = l.length
  | [], _ => rfl
  | x :: l, h => by
    obtain ⟨k, n, rfl⟩ := h x List.mem_cons_self
    rw [V.sizes, flat_sizes fun y hy => h y (List.mem_cons_of_mem _ hy), List.length_cons]
    simp [nV, V.size, V.sizes, F.sizes]; omega
theorem flat_nums (n : Nat) : Flat (numsL n) := fun x hx => by
  obtain ⟨i, _, rfl⟩ := List.mem_map.1 hx
  exact ⟨_, _, rfl⟩
theorem flat_do {l l' : List V} {c : Cm V} (hl : Flat l) (hc : ∃ k n, c.x = nV k n) (h : doL l c = some l') : Flat l' ∧ l'.length ≤ l.length + 1 := by
  by_cases hk : checkL l.length c.k c.i c.j = 0
  · obtain ⟨m, h1, _, h2⟩ := do_F l c hk
    rw [h] at h1
    obtain rfl := Option.some.inj h1
    have hd : dlen c.k ≤ 1 := by unfold dlen; split; omega; split <;> omega
    refine ⟨fun x hx => ?_, by omega⟩
    unfold doL at h
    rw [if_pos hk] at h
    split at h
    · obtain rfl := Option.some.inj h
      rcases List.mem_append.1 hx with hx | hx
      · exact hl x (List.mem_of_mem_take hx)
      · rcases List.mem_cons.1 hx with rfl | hx
        · exact hc
        · exact hl x (List.mem_of_mem_drop hx)
    split at h
    · obtain rfl := Option.some.inj h
      exact hl x (List.mem_of_mem_eraseIdx hx)
    split at h
    · obtain rfl := Option.some.inj h
      rcases List.mem_or_eq_of_mem_set hx with hx | rfl
      · exact hl x hx
      · exact hc
    · cases hi : l[c.i.toNat]? with
      | none => rw [hi] at h; cases h
      | some y =>
        rw [hi] at h
        obtain rfl := Option.some.inj h
        rcases List.mem_append.1 hx with hx | hx
        · exact hl x (List.mem_of_mem_eraseIdx (List.mem_of_mem_take hx))
        · rcases List.mem_cons.1 hx with rfl | hx
          · exact hl x (List.mem_of_getElem? hi)
          · exact hl x (List.mem_of_mem_eraseIdx (List.mem_of_mem_drop hx))
  · unfold doL at h; rw [if_neg hk] at h; cases h

/-- seq.Do, whatever may be done. -/
theorem do_any (xs ys : List V) (S : BS) (lv : Value) (k : UInt8) (i j : Int) (vk : UInt8) (vn : Int) (w : World) (hl : Sl EVal w S lv xs) (hf : Flat xs) (hn : xs.length ≤ 100000) (h : doL xs ⟨k, i, j, nV vk vn⟩ = some ys) :
    Calls Try.prog 16 #[lv, .agg (cmCells k i j vk vn).toArray] w (DoIs w ys) := by
  have hs := flat_sizes hf
  have hV : VAt w S (.agg #[U8 vk, .int .i64 vn, .string ⟨#[]⟩, .slice none 0 0, .slice none 0 0]) (nV vk vn) := ⟨_, _, rfl, Sl.nil _ _, Sl.nil _ _⟩
  have hk : checkL xs.length k i j = 0 := by
    by_cases hk : checkL xs.length k i j = 0
    · exact hk
    · unfold doL at h; rw [if_neg hk] at h; cases h
  have hx : (nV vk vn).size ≤ 1000000 := by simp [nV, V.size, V.sizes, F.sizes]
  unfold doL at h
  rw [if_pos hk] at h
  rcases check_ok hk with ⟨rfl, h1, h2⟩ | ⟨rfl, h1, h2⟩ | ⟨rfl, h1, h2⟩ | ⟨rfl, h1, h2, h3, h4⟩
  · obtain ⟨a, rfl⟩ : ∃ a : Nat, i = a := ⟨i.toNat, by omega⟩
    obtain rfl := Option.some.inj h
    exact do_ins xs (nV vk vn) S lv _ _ _ _ _ _ _ _ _ a j w hl hV (by omega) (by omega) hx
  · obtain ⟨a, rfl⟩ : ∃ a : Nat, i = a := ⟨i.toNat, by omega⟩
    obtain rfl := Option.some.inj h
    exact do_rem xs (nV vk vn) S lv _ _ _ _ _ _ _ _ _ a j w hl hV (by omega) (by omega) hx
  · obtain ⟨a, rfl⟩ : ∃ a : Nat, i = a := ⟨i.toNat, by omega⟩
    obtain rfl := Option.some.inj h
    exact do_set xs (nV vk vn) S lv _ _ _ _ _ _ _ _ _ a j w hl hV (by omega) (by omega) hx
  · obtain ⟨a, rfl⟩ : ∃ a : Nat, i = a := ⟨i.toNat, by omega⟩
    obtain ⟨b, rfl⟩ : ∃ b : Nat, j = b := ⟨j.toNat, by omega⟩
    have ha : a < xs.length := by omega
    simp only [Int.toNat_natCast] at h
    rw [List.getElem?_eq_getElem ha] at h
    obtain rfl := Option.some.inj h
    exact do_mov xs S lv _ _ _ _ _ _ _ _ _ a b xs[a] w hl ha rfl (by omega) (by omega)

theorem doneL_cons {α : Type} {l ys : List α} {c : Cm α} {cs : List (Cm α)} (h : doneL l (c :: cs) = some ys) : ∃ l', doL l c = some l' ∧ doneL l' cs = some ys := by
  rw [doneL] at h
  cases hd : doL l c with
  | none => rw [hd] at h; cases h
  | some l' => rw [hd] at h; exact ⟨l', rfl, h⟩
set_option maxHeartbeats 3200000 in
/-- The law's 'done', where all may be done. -/
theorem done_ok (xs ys : List V) (cs : List (Cm V)) (lv cv : Value) (S1 S2 : BS) (w : World) (hl : Sl EVal w S1 lv xs) (hc : Sl ECm w S2 cv cs) (hf : Flat xs) (hn : xs.length + cs.length ≤ 90000) (h : doneL xs cs = some ys) :
    Calls Try.prog 27 #[lv, cv] w fun e w' => ∃ A c, e = .returned (.tuple #[.slice A ys.length c, .bool true]) ∧ Sl EVal w' (fun _ => True) (.slice A ys.length c) ys ∧ Ext w w' := by
  obtain ⟨A1, c1, rfl, hc1, hm1⟩ := hl.shape
  obtain ⟨A2, c2, rfl, hc2, hm2⟩ := hc.shape
  unfold maxLen at hm2
  have HL := hid (hl.more EVal.ok (S' := fun _ => True) fun _ _ _ => trivial)
  have HC := hid hc
  have HN := hid hn
  have HF := hid hf
  have H := hid h
  clear hl hc hf h hn
  go_enter Try.func27, Try.ntmps27
  go_wp2_with fail
  go_loopw [0, 6] (fun x y wr => ∃ (j : Nat) (zs : List V), j ≤ cs.length ∧ y = .int .i64 j ∧ Sl EVal wr (fun _ => True) x zs ∧ Flat zs ∧ zs.length ≤ xs.length + j ∧ doneL zs (cs.drop j) = some ys ∧ Ext w wr) (fun _ y _ => cs.length - (intOf y).toNat)
  case atStart => exact ⟨0, xs, by omega, rfl, HL.out, HF.out, by omega, by simpa using H.out, Keep.refl _ _⟩
  case round =>
    clear HL HF H
    obtain ⟨j, zs, hj, rfl, hz, hfz, hlz, hd, hE⟩ := hrel
    obtain ⟨A3, c3, rfl, hc3, hm3⟩ := hz.shape
    by_cases hlt : j < cs.length
    · obtain ⟨b1, f1, d1, rfl, hb1, hs1, hr1, hc1'⟩ := (HC.out.ext ECm.ok hE).at_ ECm.ok hlt
      rw [List.drop_eq_getElem_cons hlt] at hd
      obtain ⟨zs', hd1, hd2⟩ := doneL_cons hd
      generalize hcj : cs[j] = c at *
      obtain ⟨ck, ci, cj, cx⟩ := c
      obtain ⟨vk, vn, e, rfl⟩ := hr1
      simp only at e
      subst e
      have hfl := flat_do hfz ⟨_, _, rfl⟩ hd1
      have hz12 : ECm.size = 12 := rfl
      have p0 := hc1' 0 _ rfl
      have p1 := hc1' 1 _ rfl
      have p2 := hc1' 2 _ rfl
      have p3 := hc1' 3 _ rfl
      have p4 := hc1' 4 _ rfl
      have p5 := hc1' 5 _ rfl
      have p6 := hc1' 6 _ rfl
      have p7 := hc1' 7 _ rfl
      have p8 := hc1' 8 _ rfl
      have p9 := hc1' 9 _ rfl
      have p10 := hc1' 10 _ rfl
      have p11 := hc1' 11 _ rfl
      simp only [hz12, Nat.add_zero] at p0 p1 p2 p3 p4 p5 p6 p7 p8 p9 p10 p11
      have HD := hid (do_any zs zs' _ _ ck ci cj vk vn wr hz hfz (by have := HN.out; omega) hd1)
      have HFL := hid hfl
      have HD2 := hid hd2
      have HE := hid hE
      have HLZ := hid hlz
      have hjX : (j : Int) < cs.length := by omega
      clear hc1' hz hfz hd hd1 hd2 hE hcj hz12 hb1 hs1 hlz hfl
      go_wp2_with (go_at_call 16; refine HD.out.mono ?_; rintro e w5 ⟨A5, rfl, hl5, hE5⟩; have HL5 := hid hl5; have HE5 := hid hE5; clear hl5 hE5 p0 p1 p2 p3 p4 p5 p6 p7 p8 p9 p10 p11)
      exact ⟨⟨j + 1, zs', by omega, by go_num, HL5.out.more EVal.ok fun _ _ _ => trivial, HFL.out.1, by have := HFL.out.2; have := HLZ.out; omega, HD2.out, HE.out.ext HE5.out⟩, by simp [intOf]; omega⟩
    · obtain rfl : j = cs.length := by omega
      rw [List.drop_length] at hd
      obtain rfl : zs = ys := Option.some.inj hd
      have HZ := hid hz
      have HE := hid hE
      clear hd hz hE hfz
      go_wp2
      go_ret2
      exact ⟨_, _, rfl, HZ.out, HE.out⟩
end Go.Proofs.Ytimhfkllamimeaa
