/- seq.Do by contract: what is taken out, set. -/
import Derived.Test.YtimhfkllamimeaaSeqF
set_option linter.unusedSimpArgs false
set_option linter.unusedVariables false
namespace Go.Proofs.Ytimhfkllamimeaa
open Go.RowKit
set_option linter.unusedVariables false

theorem copy_list_pos (xs : List V) (S : BS) (lv : Value) (w : World) (hl : Sl EVal w S lv xs) (hn : V.sizes xs ≤ 900000) (hp : 0 < xs.length) :
    Calls Try.prog 31 #[.agg #[.int .u8 0, .int .i64 0, .string ⟨#[]⟩, lv, .slice none 0 0]] w fun e w' => ∃ g c A' c', e = .returned (.agg #[.int .u8 0, .int .i64 0, .string ⟨#[]⟩, .slice (some ⟨g, 0, none⟩) xs.length c, .slice A' 0 c']) ∧
      Own EVal w' w.heap.size TVAL (fun q => w.heap.size ≤ q ∧ q ≠ g) (.slice (some ⟨g, 0, none⟩) xs.length c) xs ∧ Ext w w' ∧ w.heap.size ≤ g ∧ g < w'.heap.size := by
  refine (copy_list xs S lv w hl hn).mono ?_
  rintro e w' ⟨A, c, A', c', rfl, h1, h2⟩
  obtain ⟨g, cap, e, h3, h4, _⟩ := h1.form hp
  injection e with e1 _ e3
  subst e1 e3
  exact ⟨g, c, A', c', rfl, h1.more EVal.ok fun q _ h => ⟨h.1, fun e => h.2 (by rw [e]; rfl)⟩, h2, h3, h4⟩

theorem take_mid {l m : List Value} {o n : Nat} (hm : m.length = 5) (ho : o + 5 ≤ n) (hn : n ≤ l.length) : (l.take o ++ m ++ l.drop (o + 5)).take n = (l.take n).take o ++ (m ++ (l.take n).drop (o + 5)) := by
  have h1 : (l.take o).length = o := by rw [List.length_take]; omega
  rw [List.append_assoc, List.take_append, List.take_of_length_le (l := l.take o) (by omega), List.take_append, List.take_of_length_le (l := m) (by omega), List.drop_take, List.take_take, Nat.min_eq_left (by omega), h1, hm,
    show n - o - 5 = n - (o + 5) from by omega]
set_option maxHeartbeats 1600000 in
theorem own_setV {w : World} {base : Nat} {T : TypeId} {S S2 : BS} {g cap : Nat} {xs : List V} {i : Nat} {a b c d e : Value} {x : V} (h : Own EVal w base T S (.slice (some ⟨g, 0, none⟩) xs.length cap) xs) (hi : i < xs.length)
    (hx : VAt w S2 (.agg #[a, b, c, d, e]) x) (hS : ¬ S g) (hS2 : ¬ S2 g) : Own EVal (set5 w g (i * 5) a b c d e) base T (fun q => S q ∨ S2 q) (.slice (some ⟨g, 0, none⟩) xs.length cap) (xs.set i x) := by
  obtain ⟨cur, hb, _, hblk, hcap, hcm, hsz, hc⟩ := own_cells EVal.ok h
  have e5 : EVal.size = 5 := rfl
  rw [e5] at hsz hc
  obtain ⟨cur', hb', hl'⟩ := set5_blk hblk (i * 5) a b c d e (by omega)
  obtain ⟨n, hn⟩ : ∃ n, n = xs.length := ⟨_, rfl⟩
  rw [← hn] at hc hcap hi ⊢
  have hk := set5_keep w g (i * 5) a b c d e
  have h1 := (hc.split EVal.ok i (by omega)).1
  have h2 := (hc.split EVal.ok (i + 1) (by omega)).2
  rw [e5] at h1 h2
  refine .inr ⟨g, cap, cur', by rw [List.length_set, ← hn], hb, hb', by rw [List.length_set]; omega, hcm, ?_, ?_⟩
  · have := congrArg List.length hl'
    simp at this
    rw [this, e5]; omega
  rw [List.length_set, e5, hl', List.set_eq_take_append_cons_drop, if_pos (by omega)]
  have key := take_mid (l := cur.toList) (m := [a, b, c, d, e]) (o := i * 5) (n := n * 5) rfl (by omega) (by simp; omega)
  rw [← hn, key, show i * 5 + 5 = (i + 1) * 5 from by omega]
  exact ((h1.keep EVal.ok hk fun k hk e => hS (e ▸ hk)).more EVal.ok fun _ _ h => .inl h).append (Cells.append (xs := [x]) (Cells.single (EVal.ok.more (EVal.ok.keep hx.rd hk fun k hk e => hS2 (e ▸ hk)) fun _ _ h => .inr h)) ((h2.keep EVal.ok hk fun k hk e => hS (e ▸ hk)).more EVal.ok fun _ _ h => .inl h))

set_option maxHeartbeats 6400000 in
theorem do_rem (xs : List V) (x : V) (S : BS) (lv p key nn v0 v1 v2 v3 v4 s : Value) (i : Nat) (j : Int) (w : World) (hl : Sl EVal w S lv xs) (hV : VAt w S (.agg #[v0, v1, v2, v3, v4]) x) (hi : i < xs.length) (hn : V.sizes xs ≤ 900000) (hx : x.size ≤ 1000000) :
    Calls Try.prog 16 #[lv, cmpV (U8 5) p key i j nn v0 v1 v2 v3 v4 s] w (DoIs w (xs.eraseIdx i)) := by
  have hlen := V.sizes_len xs
  obtain ⟨A, c, rfl, hlc, hcm⟩ := hl.shape
  have hck : checkL xs.length 5 i j = 0 := by simp [checkL, knownL]; omega
  have HXL := hid (show xs.length ≤ 900000 from by omega)
  have HI := hid hi
  have hi9 : i ≤ 900000 := by omega
  have HN := hid hn
  have HX := hid hx
  have HCK := hid hck
  have hA : Blk (w.alloc (.cells #[U8 5, p, key, .int .i64 i, .int .i64 j, nn, v0, v1, v2, v3, v4, s] 29)) w.heap.size 29 #[U8 5, p, key, .int .i64 i, .int .i64 j, nn, v0, v1, v2, v3, v4, s] := Blk.new _ _ _
  have hE1 : Ext w (w.alloc (.cells #[U8 5, p, key, .int .i64 i, .int .i64 j, nn, v0, v1, v2, v3, v4, s] 29)) := (Keep.refl _ _).alloc _
  have HA := hid hA
  have HE1 := hid hE1
  have HL := hid hl
  have HV := hid hV
  clear hA hE1 hl hV hck hn hx hlen hlc hcm
  go_enter Try.func16, Try.ntmps16
  go_wp2_with (first
    | (go_at_call 19; refine (check_any _ _ _ _ _ _ _ _ _ _ _ _ _ _ (by have := HXL.out; omega)).mono ?_; rintro e w1 ⟨rfl, hT⟩; rw [HCK.out]; have HT := hid (HE1.out.ext hT); have HA1 := hid (HA.out.keep hT id); clear hT)
    | (go_at_call 31; refine (copy_list_pos xs S _ w1 (HL.out.ext EVal.ok HT.out) HN.out (by have := HI.out; omega)).mono ?_; rintro e w2 ⟨g, c2, A3, c3, rfl, hl2, hE2, hg1, hg2⟩;
       have hA2 := HA1.out.keep hE2 id; have HE2 := hid (HT.out.ext hE2); have HA2 := hid hA2; have HL2 := hid hl2; have HV2 := hid (HV.out.ext HE2.out);
       have HZ := hid (show w.heap.size ≤ w1.heap.size ∧ w1.heap.size ≤ w2.heap.size ∧ w.heap.size < w1.heap.size ∧ w1.heap.size ≤ g ∧ g < w2.heap.size from ⟨HT.out.size, hE2.size, by have := HA1.out.lt; exact this, hg1, hg2⟩);
       have q0 := hA2.cell 0; have q3 := hA2.cell 3; have q4 := hA2.cell 4; have q6 := hA2.cell 6; have q7 := hA2.cell 7; have q8 := hA2.cell 8; have q9 := hA2.cell 9; have q10 := hA2.cell 10;
       simp at q0 q3 q4 q6 q7 q8 q9 q10; clear hA2 hl2 hE2 hg1 hg2 HL HV HA HE1 HT HA1)
    | (simp only [run_field_l])
    | (go_at_call 33; refine (delete_val w2 w1.heap.size _ g c2 xs i HL2.out HI.out (fun h => h.2 rfl)).mono ?_; rintro e w4 ⟨rfl, ho4, hk4⟩; obtain ⟨A4, c4, e4, hl4, hc4⟩ := ho4.shape; have HO4 := hid ho4; have HK4 := hid hk4; clear ho4 hk4;
       have hm4 : xs.length - 1 ≤ c2 := (by injection e4 with e41 e42 e43; omega); have hd9 : c2 ≤ 9223372036854775807 := (by injection e4 with e41 e42 e43; unfold maxLen at hc4; omega); clear e4 hl4 hc4; generalize hm : xs.length - 1 = m at *))
  go_ret2
  have hz := HZ.out
  have hle : (xs.eraseIdx i).length = m := by rw [List.length_eraseIdx_of_lt HI.out]; exact hm
  refine ⟨some ⟨g, 0, none⟩, by rw [hle]; rfl, ?_, HE2.out.trans HK4.out fun q hq e => by omega⟩
  rw [hle]
  refine capped ((HO4.out.sl EVal.ok).more EVal.ok fun q _ h => ?_)
  rcases h with h | h
  · have := h.1; omega
  · have := (HO4.out.lt h).1; omega

set_option maxHeartbeats 6400000 in
theorem do_set (xs : List V) (x : V) (S : BS) (lv p key nn v0 v1 v2 v3 v4 s : Value) (i : Nat) (j : Int) (w : World) (hl : Sl EVal w S lv xs) (hV : VAt w S (.agg #[v0, v1, v2, v3, v4]) x) (hi : i < xs.length) (hn : V.sizes xs ≤ 900000) (hx : x.size ≤ 1000000) :
    Calls Try.prog 16 #[lv, cmpV (U8 6) p key i j nn v0 v1 v2 v3 v4 s] w (DoIs w (xs.set i x)) := by
  have hlen := V.sizes_len xs
  obtain ⟨A, c, rfl, hlc, hcm⟩ := hl.shape
  have hck : checkL xs.length 6 i j = 0 := by simp [checkL, knownL]; omega
  have HXL := hid (show xs.length ≤ 900000 from by omega)
  have HI := hid hi
  have hi9 : i ≤ 900000 := by omega
  have HN := hid hn
  have HX := hid hx
  have HCK := hid hck
  have hA : Blk (w.alloc (.cells #[U8 6, p, key, .int .i64 i, .int .i64 j, nn, v0, v1, v2, v3, v4, s] 29)) w.heap.size 29 #[U8 6, p, key, .int .i64 i, .int .i64 j, nn, v0, v1, v2, v3, v4, s] := Blk.new _ _ _
  have hE1 : Ext w (w.alloc (.cells #[U8 6, p, key, .int .i64 i, .int .i64 j, nn, v0, v1, v2, v3, v4, s] 29)) := (Keep.refl _ _).alloc _
  have HA := hid hA
  have HE1 := hid hE1
  have HL := hid hl
  have HV := hid hV
  clear hA hE1 hl hV hck hn hx hlen hlc hcm
  go_enter Try.func16, Try.ntmps16
  go_wp2_with (first
    | (go_at_call 19; refine (check_any _ _ _ _ _ _ _ _ _ _ _ _ _ _ (by have := HXL.out; omega)).mono ?_; rintro e w1 ⟨rfl, hT⟩; rw [HCK.out]; have HT := hid (HE1.out.ext hT); have HA1 := hid (HA.out.keep hT id); clear hT)
    | (go_at_call 31; refine (copy_list_pos xs S _ w1 (HL.out.ext EVal.ok HT.out) HN.out (by have := HI.out; omega)).mono ?_; rintro e w2 ⟨g, c2, A3, c3, rfl, hl2, hE2, hg1, hg2⟩;
       have hA2 := HA1.out.keep hE2 id; have HE2 := hid (HT.out.ext hE2); have HA2 := hid hA2; have HL2 := hid hl2; have HV2 := hid (HV.out.ext HE2.out);
       have HZ := hid (show w.heap.size ≤ w1.heap.size ∧ w1.heap.size ≤ w2.heap.size ∧ w.heap.size < w1.heap.size ∧ w1.heap.size ≤ g ∧ g < w2.heap.size from ⟨HT.out.size, hE2.size, by have := HA1.out.lt; exact this, hg1, hg2⟩);
       have q0 := hA2.cell 0; have q3 := hA2.cell 3; have q4 := hA2.cell 4; have q6 := hA2.cell 6; have q7 := hA2.cell 7; have q8 := hA2.cell 8; have q9 := hA2.cell 9; have q10 := hA2.cell 10;
       simp at q0 q3 q4 q6 q7 q8 q9 q10; clear hA2 hl2 hE2 hg1 hg2 HL HV HA HE1 HT HA1)
    | (simp only [run_field_l]))
  refine wp_region_parts [0] [1, 2, 3, 4, 5, 6] [7] (specOf [(5, fun v' w' => ValShape w' (fun q => w2.heap.size ≤ q) v' x)])
    (fun w' => Ext w2 w') ?_ (stableC_ext _) (by kernel_rfl) (by kernel_rfl) (Keep.drew (Keep.refl _ _)) ?_
  · exact stable_cons (fun v w w' h he => h.ext he) stable_nil
  have hiX : (i : Int) < xs.length := by have := HI.out; omega
  iterate 1
    (try simp only [Act.put, List.setIfInBounds_toArray, List.set_cons_zero, List.set_cons_succ])
    refine pure_run rfl rfl ?_
    apply Exists.intro
    refine ⟨fun w' => ?_, ?_⟩
    · go_simp
      rfl
  refine pure_nil ?_
  iterate 4
    (try simp only [Act.put, List.setIfInBounds_toArray, List.set_cons_zero, List.set_cons_succ])
    refine growP_run rfl rfl rfl ?_
    apply Exists.intro
    refine ⟨fun w' hC hK => ?_, ?_⟩
    · have q3 := (hC.cell (lt_of_cell q3) id).trans q3
      have q6 := (hC.cell (lt_of_cell q6) id).trans q6
      have q7 := (hC.cell (lt_of_cell q7) id).trans q7
      have q8 := (hC.cell (lt_of_cell q8) id).trans q8
      have q9 := (hC.cell (lt_of_cell q9) id).trans q9
      have q10 := (hC.cell (lt_of_cell q10) id).trans q10
      go_simp
      rfl
  (try simp only [Act.put, List.setIfInBounds_toArray, List.set_cons_zero, List.set_cons_succ])
  refine growP_eff rfl rfl rfl (fun w' hC hK => ?_) (fun v5 hv5 => ?_)
  · unfold growAt
    go_simp
    refine grow_call ((copy_val 1000000 x HX.out (Nat.le_refl _) _ S _ (HV2.out.ext hC)).mono ?_)
    intro e w'' h
    obtain ⟨u, rfl, h1, h2⟩ := h.at_
    have := hC.size
    exact ⟨_, rfl, h2, (h1.more fun k _ hk => by omega).shape⟩
  obtain ⟨_, _, A5, c5, A6, c6, rfl, _⟩ := hv5.head
  iterate 1
    (try simp only [Act.put, List.setIfInBounds_toArray, List.set_cons_zero, List.set_cons_succ])
    refine growP_run rfl rfl rfl ?_
    apply Exists.intro
    refine ⟨fun w' hC hK => ?_, ?_⟩
    · go_simp
      rfl
  refine growP_nil fun w3 hC hK => ?_
  obtain ⟨_, _, _, _, e5, f5⟩ : ValShape w3 (fun q => w2.heap.size ≤ q) (.agg #[U8 x.kind, .int .i64 x.n, .string x.s, .slice A5 x.l.length c5, .slice A6 x.o.length c6]) x := hK (5, _) List.mem_cons_self
  change wpList _ _ _ (_ :: []) _ _
  have hC' : Ext w2 w3 := hC
  have hO3 := HL2.out.ext EVal.ok hC'
  obtain ⟨c0, hc0, hcell⟩ := hO3.at_ EVal.ok HI.out
  obtain ⟨B1, n1, d1, B2, n2, d2, rfl, _⟩ := EVal_cells hc0
  have y0 := hcell 0 _ rfl
  have y1 := hcell 1 _ rfl
  have y2 := hcell 2 _ rfl
  have y3 := hcell 3 _ rfl
  have y4 := hcell 4 _ rfl
  have hfz := fun k => hO3.frozen k
  have e5 : EVal.size = 5 := rfl
  rw [e5] at y0 y1 y2 y3 y4
  clear hcell hc0 hK hC
  have z0 := hfz (i * 5)
  have z1 := hfz (i * 5 + 1)
  have z2 := hfz (i * 5 + 2)
  have z3 := hfz (i * 5 + 3)
  have z4 := hfz (i * 5 + 4)
  have HC := hid hC'
  have HF5 := hid f5
  have HO3 := hid hO3
  simp only [Nat.add_zero] at y0
  obtain ⟨_, hcx⟩ := own_cells EVal.ok hO3
  have hcx1 : xs.length ≤ c2 := hcx.2.2.2.1
  have hcx2 : c2 ≤ 9223372036854775807 := hcx.2.2.2.2.1
  clear hcx
  clear hC' f5 hO3 hfz q0 q3 q4 q6 q7 q8 q9 q10 HL2 HV2 HA2
  (try simp only [Act.put, List.setIfInBounds_toArray, List.set_cons_zero, List.set_cons_succ])
  go_wp2_with fail
  refine NoPanic.normal ?_
  go_wp2
  go_ret2
  have hz := HZ.out
  have hzc := HC.out.size
  have hfin := own_setV HO3.out HI.out HF5.out (fun h => h.2 rfl) (fun h => by omega)
  refine ⟨some ⟨g, 0, none⟩, by rw [List.length_set]; rfl, ?_, (HE2.out.ext HC.out).trans (set5_keep _ g (i * 5) _ _ _ _ _) fun q hq e => by omega⟩
  rw [List.length_set]
  refine capped ((hfin.sl EVal.ok).more EVal.ok fun q _ h => ?_)
  rcases h with (h | h) | h
  · have := h.1; omega
  · omega
  · have := (hfin.lt h).1; omega
end Go.Proofs.Ytimhfkllamimeaa
