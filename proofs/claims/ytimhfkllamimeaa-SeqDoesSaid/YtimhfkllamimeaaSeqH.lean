/- seq.Do by contract: what is moved. -/
import Derived.Test.YtimhfkllamimeaaSeqG
import Derived.Test.YtimhfkllamimeaaGrowU
set_option linter.unusedSimpArgs false
set_option linter.unusedVariables false
namespace Go.Proofs.Ytimhfkllamimeaa
open Go.RowKit
set_option linter.unusedVariables false

set_option maxHeartbeats 6400000 in
theorem do_mov (xs : List V) (S : BS) (lv p key nn v0 v1 v2 v3 v4 s : Value) (i j : Nat) (x : V) (w : World) (hl : Sl EVal w S lv xs) (hi : i < xs.length) (hx : xs[i] = x) (hj : j < xs.length) (hn : V.sizes xs ≤ 900000) :
    Calls Try.prog 16 #[lv, cmpV (U8 7) p key i j nn v0 v1 v2 v3 v4 s] w (DoIs w ((xs.eraseIdx i).take j ++ x :: (xs.eraseIdx i).drop j)) := by
  have hlen := V.sizes_len xs
  obtain ⟨A, c, rfl, hlc, hcm⟩ := hl.shape
  have hck : checkL xs.length 7 i j = 0 := by simp [checkL, knownL]; omega
  have HXL := hid (show xs.length ≤ 900000 from by omega)
  have HI := hid hi
  have HJ := hid hj
  have hi9 : i ≤ 900000 := by omega
  have hj9 : j ≤ 900000 := by omega
  have HN := hid hn
  have HCK := hid hck
  have hA : Blk (w.alloc (.cells #[U8 7, p, key, .int .i64 i, .int .i64 j, nn, v0, v1, v2, v3, v4, s] 29)) w.heap.size 29 #[U8 7, p, key, .int .i64 i, .int .i64 j, nn, v0, v1, v2, v3, v4, s] := Blk.new _ _ _
  have hE1 : Ext w (w.alloc (.cells #[U8 7, p, key, .int .i64 i, .int .i64 j, nn, v0, v1, v2, v3, v4, s] 29)) := (Keep.refl _ _).alloc _
  have HA := hid hA
  have HE1 := hid hE1
  have HL := hid hl
  have HXE := hid (show xs[i]? = some x from by rw [List.getElem?_eq_getElem hi, hx])
  clear hA hE1 hl hck hn hlen hlc hcm hi hj hx
  go_enter Try.func16, Try.ntmps16
  go_wp2_with (first
    | (go_at_call 19; refine (check_any _ _ _ _ _ _ _ _ _ _ _ _ _ _ (by have := HXL.out; omega)).mono ?_; rintro e w1 ⟨rfl, hT⟩; rw [HCK.out]; have HT := hid (HE1.out.ext hT); have HA1 := hid (HA.out.keep hT id); clear hT)
    | (go_at_call 31; refine (copy_list_pos xs S _ w1 (HL.out.ext EVal.ok HT.out) HN.out (by have := HI.out; omega)).mono ?_; rintro e w2 ⟨g, c2, A3, c3, rfl, hl2, hE2, hg1, hg2⟩;
       have hA2 := HA1.out.keep hE2 id; have HE2 := hid (HT.out.ext hE2); have HA2 := hid hA2; have HL2 := hid hl2;
       have HZ := hid (show w.heap.size ≤ w1.heap.size ∧ w1.heap.size ≤ w2.heap.size ∧ w.heap.size < w1.heap.size ∧ w1.heap.size ≤ g ∧ g < w2.heap.size from ⟨HT.out.size, hE2.size, by have := HA1.out.lt; exact this, hg1, hg2⟩);
       obtain ⟨c0, hc0, hcell⟩ := hl2.at_ EVal.ok HI.out; have hc0 : EVal.rd w2 _ c0 x := (List.getElem?_eq_some_iff.1 HXE.out).2 ▸ hc0; obtain ⟨B1, n1, d1, B2, n2, d2, rfl, _⟩ := EVal_cells hc0;
       have y0 := hcell 0 _ rfl; have y1 := hcell 1 _ rfl; have y2 := hcell 2 _ rfl; have y3 := hcell 3 _ rfl; have y4 := hcell 4 _ rfl; have e5 : EVal.size = 5 := rfl; rw [e5] at y0 y1 y2 y3 y4; simp only [Nat.add_zero] at y0;
       obtain ⟨_, hcx⟩ := own_cells EVal.ok hl2; have hcx1 : xs.length ≤ c2 := hcx.2.2.2.1; have hcx2 : c2 ≤ 9223372036854775807 := hcx.2.2.2.2.1; have hiX : (i : Int) < xs.length := (by have := HI.out; omega); have HC0 := hid hc0; clear hcx hcell hc0 e5;
       have q0 := hA2.cell 0; have q3 := hA2.cell 3; have q4 := hA2.cell 4; have q6 := hA2.cell 6; have q7 := hA2.cell 7; have q8 := hA2.cell 8; have q9 := hA2.cell 9; have q10 := hA2.cell 10;
       simp at q0 q3 q4 q6 q7 q8 q9 q10; clear hA2 hl2 hE2 hg1 hg2 HL HA HE1 HT HA1)
    | (simp only [run_field_l]))
  have hE3 : Ext w2 (w2.alloc (.cells #[U8 x.kind, .int .i64 x.n, .string x.s, .slice B1 x.l.length d1, .slice B2 x.o.length d2] TVAL)) := (Keep.refl _ _).alloc _
  have hB3 : Blk (w2.alloc (.cells #[U8 x.kind, .int .i64 x.n, .string x.s, .slice B1 x.l.length d1, .slice B2 x.o.length d2] TVAL)) w2.heap.size TVAL #[U8 x.kind, .int .i64 x.n, .string x.s, .slice B1 x.l.length d1, .slice B2 x.o.length d2] := Blk.new _ _ _
  change Code.wp _ _ _ _ (w2.alloc (.cells #[U8 x.kind, .int .i64 x.n, .string x.s, .slice B1 x.l.length d1, .slice B2 x.o.length d2] TVAL))
  generalize w2.alloc (.cells #[U8 x.kind, .int .i64 x.n, .string x.s, .slice B1 x.l.length d1, .slice B2 x.o.length d2] TVAL) = w3 at *
  have hz3 := hE3.size
  have hz3b := hB3.lt
  have HO3 := hid (HL2.out.ext EVal.ok hE3)
  have HX3 := hid (EVal.ok.keep HC0.out hE3 fun _ _ h => h)
  have hA3 := HA2.out.keep hE3 id
  have q3 := hA3.cell 3
  have q4 := hA3.cell 4
  have r0 := hB3.cell 0
  have r1 := hB3.cell 1
  have r2 := hB3.cell 2
  have r3 := hB3.cell 3
  have r4 := hB3.cell 4
  simp at q3 q4 r0 r1 r2 r3 r4
  have HZ3 := hid (show w2.heap.size ≤ w3.heap.size ∧ w2.heap.size < w3.heap.size ∧ g ≠ w2.heap.size ∧ g ≠ w.heap.size ∧ w.heap.size < w3.heap.size from ⟨hz3, hz3b, by have := HZ.out; omega, by have := HZ.out; omega, by have := HZ.out; omega⟩)
  have HE3 := hid (HE2.out.ext hE3)
  have hng1 : w.heap.size ≠ g := by have := HZ3.out; omega
  have hng2 : w2.heap.size ≠ g := by have := HZ3.out; omega
  have HD := hid (fun w' h => delete_val w' w1.heap.size (fun q => w1.heap.size ≤ q ∧ q ≠ g) g c2 xs i h HI.out (fun h => h.2 rfl))
  clear hA3 hB3 hE3 hz3 hz3b y0 y1 y2 y3 y4 q0 q6 q7 q8 q9 q10 HA2 HL2 HC0 hc0
  obtain ⟨i1, hi1⟩ : ∃ i1 : Int, i1 = (i : Int) + 1 := ⟨_, rfl⟩
  have hwi : IntKind.i64.wrap ((i : Int) + 1) = i1 := by rw [hi1]; exact IntWalk.i64_in _ (by omega)
  rw [← hi1] at HD
  clear hi1
  refine M.wp_region_once [0] [1, 2, 3, 4, 5, 6, 7, 8, 9, 10] [11, 12]
    (M.specOf [(6, fun v' w' => v' = .slice (some ⟨g, 0, none⟩) (xs.length - 1) c2 ∧ Own EVal w' w1.heap.size TVAL (fun q => w1.heap.size ≤ q ∧ q ≠ g) (.slice (some ⟨g, 0, none⟩) (xs.length - 1) c2) (xs.eraseIdx i)),
      (10, fun v' w' => ∃ vb, v' = .slice (some ⟨vb, 0, none⟩) 1 1 ∧ w3.heap.size ≤ vb ∧ Blk w' vb TVAL #[U8 x.kind, .int .i64 x.n, .string x.s, .slice B1 x.l.length d1, .slice B2 x.o.length d2])])
    (fun w' => Keep (· = g) w3 w') (fun i => Keep (M.effOf [(6, fun k => k = g)] i)) (M.onceOf 6 fun w' => Own EVal w' w1.heap.size TVAL (fun q => w1.heap.size ≤ q ∧ q ≠ g) (.slice (some ⟨g, 0, none⟩) xs.length c2) xs)
    ?_ (M.stableC_keep (fun i k h => by obtain ⟨x, hx, _, h⟩ := h; rcases List.mem_cons.1 hx with rfl | hx; exact h; cases hx) _) ?_ (by kernel_rfl) (by kernel_rfl) (Keep.drew (Keep.refl _ _)) ?_ ?_
  · have hn : ∀ j, j ≠ 6 → ∀ k, ¬ M.effOf [(6, fun k => k = g)] j k := fun j hj k h => by
      obtain ⟨x, hx, h1, _⟩ := h
      rcases List.mem_cons.1 hx with rfl | hx
      · exact hj h1.symm
      · cases hx
    refine M.stable_cons (fun j hj v' u u' h he => ⟨h.1, h.2.keep EVal.ok he (fun k _ => hn j hj k) fun _ _ => hn j hj _⟩) (M.stable_cons (fun j hj v' u u' h he => ?_) M.stable_nil)
    obtain ⟨vb, h1, h2, h3⟩ := h
    refine ⟨vb, h1, h2, h3.keep he fun h => ?_⟩
    obtain ⟨x, hx, _, h⟩ := h
    rcases List.mem_cons.1 hx with rfl | hx
    · have h : vb = g := h
      have := HZ.out; have := HZ3.out; omega
    · cases hx
  · have hn : ∀ j, j ≠ 6 → ∀ k, ¬ M.effOf [(6, fun k => k = g)] j k := fun j hj k h => by
      obtain ⟨x, hx, h1, _⟩ := h
      rcases List.mem_cons.1 hx with rfl | hx
      · exact hj h1.symm
      · cases hx
    exact M.stableU_once fun j hj u u' h he => h.keep EVal.ok he (fun k _ => hn j hj k) fun _ _ => hn j hj _
  · intro k _ e
    exact HO3.out.ext EVal.ok (Keep.drew (Keep.refl _ _))
  iterate 1
    (try simp only [Act.put, List.setIfInBounds_toArray, List.set_cons_zero, List.set_cons_succ])
    refine M.pure_run rfl rfl ?_
    apply Exists.intro
    refine ⟨fun w' => ?_, ?_⟩
    · go_simp
      rfl
  refine M.pure_nil ?_
  iterate 5
    (try simp only [Act.put, List.setIfInBounds_toArray, List.set_cons_zero, List.set_cons_succ])
    refine M.u_run rfl rfl rfl ?_
    apply Exists.intro
    refine ⟨fun w' hC hU hK => ?_, ?_⟩
    · have q3 := (hC.cell (lt_of_cell q3) hng1).trans q3
      go_simp
      rfl
  (try simp only [Act.put, List.setIfInBounds_toArray, List.set_cons_zero, List.set_cons_succ])
  refine M.u_eff rfl rfl rfl (fun w' hC hU hK => ?_) (fun v6 hv6 => ?_)
  · unfold M.growAt
    go_simp
    refine M.grow_call ((HD.out w' (hU rfl)).mono ?_)
    rintro e w'' ⟨rfl, h1, h2⟩
    exact ⟨_, rfl, h2.mono (fun k _ hk => ⟨_, List.mem_cons_self, rfl, hk⟩), rfl, h1⟩
  obtain ⟨_, _, rfl, _⟩ := hv6
  iterate 3
    (try simp only [Act.put, List.setIfInBounds_toArray, List.set_cons_zero, List.set_cons_succ])
    refine M.u_run rfl rfl rfl ?_
    apply Exists.intro
    refine ⟨fun w' hC hU hK => ?_, ?_⟩
    · have q4 := (hC.cell (lt_of_cell q4) hng1).trans q4
      have r0 := (hC.cell (lt_of_cell r0) hng2).trans r0
      have r1 := (hC.cell (lt_of_cell r1) hng2).trans r1
      have r2 := (hC.cell (lt_of_cell r2) hng2).trans r2
      have r3 := (hC.cell (lt_of_cell r3) hng2).trans r3
      have r4 := (hC.cell (lt_of_cell r4) hng2).trans r4
      go_simp
      rfl
  (try simp only [Act.put, List.setIfInBounds_toArray, List.set_cons_zero, List.set_cons_succ])
  refine M.u_eff rfl rfl rfl (fun w' hC hU hK => ?_) (fun v10 hv10 => ?_)
  · unfold M.growAt
    go_simp
    exact ⟨(Keep.refl _ _).alloc _, _, rfl, hC.size, Blk.new _ _ _⟩
  obtain ⟨_, _, vb, rfl, hvb, _⟩ := hv10
  refine M.u_nil fun w4 hC hK => ?_
  obtain ⟨_, hO4⟩ : _ ∧ Own EVal w4 w1.heap.size TVAL (fun q => w1.heap.size ≤ q ∧ q ≠ g) (.slice (some ⟨g, 0, none⟩) (xs.length - 1) c2) (xs.eraseIdx i) := hK (6, _) (List.mem_cons_of_mem _ List.mem_cons_self)
  obtain ⟨vb', e7, f1, f2⟩ : ∃ vb', Value.slice (some ⟨vb, 0, none⟩) 1 1 = .slice (some ⟨vb', 0, none⟩) 1 1 ∧ w3.heap.size ≤ vb' ∧ Blk w4 vb' TVAL #[U8 x.kind, .int .i64 x.n, .string x.s, .slice B1 x.l.length d1, .slice B2 x.o.length d2] := hK (10, _) List.mem_cons_self
  obtain rfl : vb = vb' := by injection e7 with e7; injection e7 with e7; injection e7
  change wpList _ _ _ (_ :: _ :: []) _ _
  have hC' : Keep (· = g) w3 w4 := hC
  have hx4 := EVal.ok.keep HX3.out hC' fun k hk e => hk.2 e
  have hel : (xs.eraseIdx i).length = xs.length - 1 := by rw [List.length_eraseIdx_of_lt HI.out]
  have HIN := hid (insert_val w4 w1.heap.size _ _ (.slice (some ⟨g, 0, none⟩) (xs.length - 1) c2) (.slice (some ⟨vb, 0, none⟩) 1 1) _ x j vb [U8 x.kind, .int .i64 x.n, .string x.s, .slice B1 x.l.length d1, .slice B2 x.o.length d2] hO4 rfl f2 hx4 (by have := HJ.out; omega)
    (fun g' e => by
      have e : g = g' := by simpa [Value.ownBlock] using e
      subst e
      have := HZ.out; have := HZ3.out
      exact ⟨fun h => h.2 rfl, fun h => h.2 rfl, by omega⟩) (by have := HXL.out; omega) (by have := HZ.out; have := HZ3.out; have := hC'.size; omega))
  have hlen : ((xs.eraseIdx i).take j ++ x :: (xs.eraseIdx i).drop j).length = xs.length := by
    have := HJ.out
    rw [List.length_append, List.length_cons, List.length_take, List.length_drop, hel]; omega
  obtain ⟨ys, hys⟩ : ∃ ys, ys = (xs.eraseIdx i).take j ++ x :: (xs.eraseIdx i).drop j := ⟨_, rfl⟩
  rw [← hys] at HIN hlen ⊢
  have HZ4 := hid hC'.size
  have HC := hid hC'
  have HLEN := hid hlen
  have HYS := hid hys
  have hlt4 : xs.length - 1 ≤ 900000 := by have := HXL.out; omega
  clear hO4 hx4 f1 f2 hC' hC hys q3 q4 r0 r1 r2 r3 r4 hK e7 hel hlen hvb HD HX3 HO3
  generalize hm : xs.length - 1 = m at *
  clear hm
  (try simp only [Act.put, List.setIfInBounds_toArray, List.set_cons_zero, List.set_cons_succ])
  go_wp2_with (go_at_call 32; refine HIN.out.mono ?_; rintro e w5 ⟨v5, rfl, ho5, hk5, hb5⟩; obtain ⟨A5, c5, rfl, hl5, hc5⟩ := ho5.shape; have HO5 := hid ho5; have HK5 := hid hk5; have HB5 := hid hb5; clear ho5 hk5 hb5)
  refine NoPanic.normal ?_
  go_wp2
  go_ret2
  have hz := HZ.out
  have hz3 := HZ3.out
  have hz4 := HZ4.out
  have hz5 := HK5.out.size
  obtain rfl := HYS.out
  refine ⟨A5, rfl, capped ((HO5.out.sl EVal.ok).more EVal.ok fun q _ h => ?_), (HE3.out.trans HC.out fun q hq e => by omega).trans HK5.out fun q hq e => by
    have e : g = q := by simpa [Value.ownBlock] using e
    omega⟩
  rcases h with (h | h) | h
  · have := h.1; omega
  · have := h.1; omega
  · have := (HO5.out.lt h).1; omega
end Go.Proofs.Ytimhfkllamimeaa
