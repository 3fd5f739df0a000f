/- Package net: DeleteFunc, Cut: the walks. -/
import Derived.Test.YtjpbfdkpkeaofaaNetCutB
set_option linter.unusedSimpArgs false
set_option linter.unusedVariables false
namespace Go.Proofs.Ytjpbfdkpkeaofaa
open Go.RowKit
set_option linter.unusedVariables false

set_option maxHeartbeats 1600000 in
theorem deletef_cut (w : World) (base : Nat) (S : BS) (v : Value) (ms : List Mail) (b : Nat) (s : Int) (h : Own EMail w base TMAIL S v ms) (hb : w.cell? ⟨b, 0, none⟩ = some (.int .i64 s))
    (hvb : v.ownBlock ≠ some b) (hvS : ∀ k, v.ownBlock = some k → ¬ S k) :
    Calls Try.prog 31 #[v, cutF b] w fun e w' =>
      ∃ v', e = .returned v' ∧ Own EMail w' base TMAIL S v' (ms.filter (other s)) ∧ v'.ownBlock = v.ownBlock ∧ Keep (fun k => v.ownBlock = some k) w w' := by
  have HT := hid (index_cut w base S v ms b s h hb)
  obtain ⟨A, cap, rfl, hlc, hcm⟩ := h.shape
  unfold maxLen at hcm
  have hbs := lt_of_cell hb
  go_enter Try.func31, Try.ntmps31
  go_wp2_with fail
  refine HT.out.mono ?_
  rintro e w1 ⟨h1, hE1⟩
  clear HT
  rcases h1 with ⟨rfl, hf⟩ | ⟨k0, hk0, rfl, hf⟩
  · have HO := hid (h.ext EMail.ok hE1)
    have HF := hid hf
    have HE := hid hE1
    clear h hf hE1
    go_wp2
    go_ret
    refine ⟨_, rfl, ?_, rfl, HE.out.mono fun _ _ x => x.elim⟩
    rw [HF.out]; exact HO.out
  · obtain ⟨g, cap', cur, e, hgr, hbk, hlc', hcm', hsz, hcs⟩ := (h.resolve_left (by rintro ⟨_, rfl⟩; simp at hk0))
    injection e with e1 e2 e3
    subst e1 e3
    have hSg : ¬ S g := hvS g rfl
    have hgb : ¬ b = g := fun e => hvb (by rw [e]; rfl)
    have hz3 : EMail.size = 3 := rfl
    rw [hz3] at hsz hcs
    have hb1 := (hE1.cell hbs id).trans hb
    have hD : DelAt w1 g S cap ms.length (ms.take k0) (ms.drop (k0 + 1)) (k0 + 1) := by
      refine ⟨cur, hbk.keep hE1 id, hsz, ?_, ?_⟩
      · rw [List.length_take, Nat.min_eq_left (by omega)]
        have := (Cells.split EMail.ok k0 (by omega) hcs).1
        rw [hz3, List.take_take, Nat.min_eq_left (by omega)] at this
        exact this.keep EMail.ok hE1 (fun _ _ x => x)
      · have := (Cells.split EMail.ok (k0 + 1) (by omega) hcs).2
        rw [hz3] at this
        exact this.keep EMail.ok hE1 (fun _ _ x => x)
    have hF0 : (ms.take k0).length = k0 := by rw [List.length_take]; omega
    generalize hn : ms.length = n at *
    have HN := hid hn
    have HE := hid hE1
    have HD := hid hD
    have HB := hid hb
    have HF := hid hf
    have HF0 := hid hF0
    clear hn hcs hsz hbk h hE1 hD hf hz3 hvb hvS hcm' hlc' hF0 hb
    go_wp2
    go_loopw [5, 6] (fun x y wr => ∃ (i j : Nat) (F : List Mail), j ≤ n ∧ i < j ∧ x = .int .i64 i ∧ y = .int .i64 j ∧ F.length = i ∧ F = (ms.take j).filter (other s) ∧ DelAt wr g S cap n F (ms.drop j) j ∧ Keep (fun k => k = g) w wr) (fun _ y _ => n - (intOf y).toNat)
    case atStart => exact ⟨k0, k0 + 1, ms.take k0, by omega, by omega, rfl, by go_num, HF0.out, HF.out.symm, HD.out, HE.out.mono fun _ _ x => x.elim⟩
    case round =>
      obtain ⟨i, j, F, hj, hij, rfl, rfl, hFl, hF, hDj, hKj⟩ := hrel
      have HFl := hid hFl
      have HFF := hid hF
      clear hFl hF
      by_cases hlt : j < n
      · have hjm : j < ms.length := by rw [HN.out]; exact hlt
        have htk := take_succ_get ms j hjm
        rw [List.drop_eq_getElem_cons hjm] at hDj
        generalize hm : ms[j]'hjm = m at *
        obtain ⟨bv, q0, q1, q2, hbv⟩ := hDj.cell
        obtain ⟨A, c, rfl, _⟩ := hbv.shape
        have HTK := hid htk
        clear htk
        have hbj := (hKj.cell hbs hgb).trans HB.out
        have hE1 : Ext wr (wr.alloc (.cells #[.int .i64 m.sess, .bool m.up, .slice A m.b.length c] TMAIL)) := (Keep.refl _ _).alloc _
        have hbox : Blk (wr.alloc (.cells #[.int .i64 m.sess, .bool m.up, .slice A m.b.length c] TMAIL)) wr.heap.size TMAIL #[.int .i64 m.sess, .bool m.up, .slice A m.b.length c] := Blk.new _ _ _
        have hgw := hDj.lt
        have hbx := lt_of_cell hbj
        have hK1 := hKj.ext hE1
        have hD1 := hDj.ext hE1
        have hbj1 := (hE1.cell hbx id).trans hbj
        have hbv1 := hbv.ext EU8.ok hE1
        have HX := hid hbox
        have HKx := hid hK1
        have HD1 := hid hD1
        have HM := hid hm
        clear hE1 hbox hK1 hD1 hKj hDj hbv hm
        obtain ⟨p, hp⟩ : ∃ p : Bool, (m.sess == s) = p := ⟨_, rfl⟩
        go_wp2_with fail
        generalize wr.alloc (.cells #[.int .i64 m.sess, .bool m.up, .slice A m.b.length c] TMAIL) = wr1 at *
        refine (cut1_ok _ _ _ m _ hbj1 p hp ⟨_, _, _, rfl⟩).mono ?_
        rintro e w2 ⟨rfl, hE2⟩
        have HP := hid hp
        have hbx2 := HX.out.keep hE2 id
        have hK2 := HKx.out.ext hE2
        have hD2 := HD1.out.ext hE2
        have hbv2 := hbv1.ext EU8.ok hE2
        generalize wr.heap.size = bx at *
        have x0 := hbx2.cell 0
        have x1 := hbx2.cell 1
        have x2 := hbx2.cell 2
        simp at x0 x1 x2
        clear hp hE2 hbv1 HX HKx HD1 hbx2 hb1 q0 q1 q2 hbj hbj1
        cases p with
        | true =>
          have HD2 := hid hD2
          have HK2 := hid hK2
          clear hD2 hK2
          go_wp2
          refine ⟨?_, ?measure⟩
          repeat apply Exists.intro
          refine ⟨?rel, rfl⟩
          case rel =>
            refine ⟨i, j + 1, F, by omega, by omega, rfl, by go_num, HFl.out, ?_, HD2.out.skip, HK2.out⟩
            rw [HTK.out, List.filter_append, ← HFF.out]
            simp [other, HP.out]
          case measure => simp [intOf]; omega
        | false =>
          have hFl := HFl.out
          have hDn := hD2.put (by rw [hFl]; exact hij) hlt (by omega) hSg hbv2
          rw [hFl] at hDn
          have hKn : Keep (fun k => k = g) w (((w2.setCell ⟨g, i * 3, none⟩ (.int .i64 m.sess)).setCell ⟨g, i * 3 + 1, none⟩ (.bool m.up)).setCell ⟨g, i * 3 + 2, none⟩ (.slice A m.b.length c)) :=
            ((hK2.set1 (i * 3) _).set1 (i * 3 + 1) _).set1 (i * 3 + 2) _
          have f0 := hD2.frozen (i * 3)
          have f1 := hD2.frozen (i * 3 + 1)
          have f2 := hD2.frozen (i * 3 + 2)
          obtain ⟨u0, g0⟩ := hD2.there (i := i) (q := 0) (by omega) (by omega)
          obtain ⟨u1, g1⟩ := hD2.there (i := i) (q := 1) (by omega) (by omega)
          obtain ⟨u2, g2⟩ := hD2.there (i := i) (q := 2) (by omega) (by omega)
          rw [Nat.add_zero] at g0
          have HDn := hid hDn
          have HKn := hid hKn
          clear hD2 hK2 hFl hDn hKn hbv2
          go_wp2
          refine ⟨?_, ?measure⟩
          repeat apply Exists.intro
          refine ⟨?rel, rfl⟩
          case rel =>
            refine ⟨i + 1, j + 1, F ++ [m], by omega, by omega, by go_num, by go_num, by simp [HFl.out], ?_, HDn.out, HKn.out⟩
            rw [HTK.out, List.filter_append, ← HFF.out]
            simp [other, HP.out]
          case measure => simp [intOf]; omega
      · obtain rfl : j = n := by omega
        obtain ⟨cur2, b1, b2, b3, b4⟩ := hDj
        have hic : i < cap := by omega
        obtain ⟨Z, hZ, hrun⟩ := run_clearN wr g (i * 3) (j - i) (cap - i) cur2 b1 (by omega) (by rw [b2]; omega)
        have hl : cur2.toList.length = cap * 3 := by simpa using b2
        have hKf := hKj.setRow (g := g) (fun _ => rfl) (cur2.toList.take (i * 3) ++ Z ++ cur2.toList.drop (i * 3 + (j - i) * 3)).toArray
        have b5 := b1.setRow (cur2.toList.take (i * 3) ++ Z ++ cur2.toList.drop (i * 3 + (j - i) * 3)).toArray
        have hKK := (Keep.refl (fun k => k = g) wr).setRow (g := g) (fun _ => rfl) (cur2.toList.take (i * 3) ++ Z ++ cur2.toList.drop (i * 3 + (j - i) * 3)).toArray
        have hFl := HFl.out
        have hFF := HFF.out
        rw [List.take_of_length_le (by have := HN.out; omega)] at hFF
        have hO : Own EMail (wr.setRow g (cur2.toList.take (i * 3) ++ Z ++ cur2.toList.drop (i * 3 + (j - i) * 3)).toArray) base TMAIL S (.slice (some ⟨g, 0, none⟩) i cap) (ms.filter (other s)) := by
          rw [← hFF]
          refine .inr ⟨g, cap, _, by rw [hFl], hgr, b5, by omega, by unfold maxLen; omega, ?_, ?_⟩
          · show _ = cap * 3
            simp only [List.size_toArray, List.length_append, List.length_take, List.length_drop, hl, hZ]; omega
          · show Cells EMail _ S (List.take (F.length * 3) _) F
            rw [hFl] at b3 ⊢
            have e1 : (cur2.toList.take (i * 3) ++ Z ++ cur2.toList.drop (i * 3 + (j - i) * 3)).toArray.toList.take (i * 3) = cur2.toList.take (i * 3) := by
              rw [List.append_assoc, List.take_append_of_le_length (by simp [hl]; omega), List.take_of_length_le (by simp; omega)]
            rw [e1]
            exact b3.keep EMail.ok hKK (fun k hk e => hSg (e ▸ hk))
        generalize wr.setRow g (cur2.toList.take (i * 3) ++ Z ++ cur2.toList.drop (i * 3 + (j - i) * 3)).toArray = wF at *
        have HO := hid hO
        have HKf := hid hKf
        simp only [TMAILS] at hrun
        have hci : ¬ cap = i := by omega
        clear hO hKf hKK b1 b2 b3 b4 b5 hl hFl hFF hZ hKj hb1
        go_wp2_with fail
        go_ret
        exact ⟨_, rfl, HO.out, rfl, HKf.out.mono fun k _ e => congrArg some e.symm⟩

set_option maxHeartbeats 1000000 in
theorem cut_ok (w : World) (S : BS) (bn : Nat) (g : Option Nat) (ms : List Mail) (s : Int) (h : NetAt w S bn g ms) :
    Calls Try.prog 17 #[.pointer (some ⟨bn, 0, none⟩), .int .i64 s] w fun e w' =>
      e = .returned (.int .i64 ((ms.length : Int) - ((ms.filter (other s)).length : Int))) ∧ NetAt w' S bn g (ms.filter (other s)) ∧ Keep (NF bn g) w w' := by
  have hlt0 := h.lt
  have hns := h.notS
  obtain ⟨va, hb, hg, hown, hSb, hSg⟩ := h.cutS
  obtain ⟨Aa, ca, rfl, hla, hca⟩ := hown.shape
  unfold maxLen at hca
  have hE1 : Ext w (w.alloc (.cells #[.int .i64 s] 3)) := (Keep.refl _ _).alloc _
  have hbox : Blk (w.alloc (.cells #[.int .i64 s] 3)) w.heap.size 3 #[.int .i64 s] := Blk.new _ _ _
  have hbs := hbox.cell 0
  simp only [List.getElem?_toArray, List.getElem?_cons_zero] at hbs
  have hD := deletef_cut _ _ _ _ _ w.heap.size s (hown.ext EMail.ok hE1) hbs (fun e => by have := (hown.lt e).2; omega) (fun k e => hSg k (hg.symm.trans e))
  have d0 := hb.cell 0
  simp at d0
  have hblt := hb.lt
  have hb1 := hb.keep hE1 id
  have e0 := hb1.cell 0
  simp only [List.getElem?_toArray, List.getElem?_cons_zero] at e0
  have hle : (ms.filter (other s)).length ≤ ms.length := List.length_filter_le _ _
  generalize hms : ms.filter (other s) = ms2 at *
  clear hms
  have HD := hid hD
  have HE := hid hE1
  have HB := hid hb1
  have HL := hid hlt0
  have HG := hid hg
  clear hD hE1 hbox hbs hown hb hb1 h hlt0 hg
  go_enter Try.func17, Try.ntmps17
  go_wp2_with fail
  generalize w.alloc (.cells #[.int .i64 s] 3) = w1 at *
  refine HD.out.mono ?_
  rintro e w2 ⟨v2, rfl, hown2, hob, hK2⟩
  have hgl : ∀ k, (Value.slice Aa ms.length ca).ownBlock = some k → bn < k ∧ k < w.heap.size := fun k e => HL.out.2 k (HG.out.symm.trans e)
  have hb2 := HB.out.keep hK2 (fun e => by have := hgl _ e; omega)
  have q0 := hb2.cell 0
  have q1 := hb2.frozen 0
  simp at q0
  obtain ⟨A2, c2, rfl, hl2, hc2⟩ := hown2.shape
  unfold maxLen at hc2
  have hkk : Keep (fun k => k = bn) w2 (w2.setCell ⟨bn, 0, none⟩ (.slice A2 ms2.length c2)) := (Keep.refl _ _).set1 0 _
  have hN : NetAt (w2.setCell ⟨bn, 0, none⟩ (.slice A2 ms2.length c2)) S bn g ms2 := by
    refine ⟨_, hb2.set_ 0 _, hob.trans HG.out, (hown2.keep EMail.ok hkk ?_ ?_).more EMail.ok (fun k _ h => h.1), hns.1, hns.2⟩
    · rintro k hk rfl; exact hns.1 hk.1
    · rintro k e rfl; have := hgl _ (hob.symm.trans e); omega
  have hK : Keep (NF bn g) w (w2.setCell ⟨bn, 0, none⟩ (.slice A2 ms2.length c2)) := by
    refine ((HE.out.mono fun _ _ x => x.elim : Keep (NF bn g) w w1).trans hK2 (fun k hk e => .inr (HG.out.symm.trans e))).setAt (fun _ => .inl rfl) 0 _
  have HN := hid hN
  have HK := hid hK
  clear hN hK hkk hown2 hob hK2 hgl hb2 HD HB HL HG HE
  go_wp2
  go_ret
  exact ⟨by go_num, HN.out, HK.out⟩
end Go.Proofs.Ytjpbfdkpkeaofaa
