/- The law NetLate: its walk. -/
import Derived.Test.YtjpbfdkpkeaofaaNetLateA
set_option linter.unusedSimpArgs false
set_option linter.unusedVariables false
namespace Go.Proofs.Ytjpbfdkpkeaofaa
open Go.RowKit
set_option linter.unusedVariables false

def mailOf (o : LOp) : Mail := ⟨o.sess, o.up, o.b⟩
/-- The net, made by this call, with messages that it has got. -/
structure Net1 (w wr : World) (bn : Nat) (S : BS) (g : Option Nat) (ms : List Mail) : Prop where
  net : NetAt wr S bn g ms
  ext : Ext w wr
  new : w.heap.size ≤ bn
theorem Net1.step_ext {w wr wr' : World} {bn : Nat} {S : BS} {g : Option Nat} {ms : List Mail} (h : Net1 w wr bn S g ms) (he : Ext wr wr') : Net1 w wr' bn S g ms := ⟨h.net.ext he, h.ext.ext he, h.new⟩
theorem Net1.step_net {w wr wr' : World} {bn : Nat} {S S' : BS} {g g' : Option Nat} {ms ms' : List Mail} (h : Net1 w wr bn S g ms) (hn : NetAt wr' S' bn g' ms') (hk : Keep (NF bn g) wr wr') : Net1 w wr' bn S' g' ms' :=
  ⟨hn, h.ext.trans hk fun k hk e => by
    have := h.net.lt.2
    have := h.new
    rcases e with rfl | e
    · omega
    · have := (h.net.lt.2 k e).1; omega, h.new⟩

set_option maxRecDepth 100000 in
set_option maxHeartbeats 3200000 in
/-- The loop that sends all. -/
theorem late_walk (v : Value) (l : List LOp) (i sess : Int) (w : World) (hv : Sl EOp w (fun k => k < w.heap.size) v l) (hq : l.length * Try.prog.bytesOf 30 ≤ reachBytes ∧ ∀ o ∈ l, o.b.length ≤ reachBytes)
    (hi : (Lit.int .i64 i).wf = true) (hs : (Lit.int .i64 sess).wf = true) :
    Calls Try.prog 5 #[v, .int .i64 i, .int .i64 sess] w fun e w' => e = .returned (.bool true) ∧ Below w.heap.size w w' := by
  obtain ⟨A, c, rfl, hlc, hcm⟩ := hv.shape
  unfold maxLen at hcm
  have HV := hid hv
  have HH := hid (heavy_small _ _ _ _ hv hq.2)
  have hs2 := bounds_int hs
  obtain ⟨i0, hmax, hi0⟩ := run_max0 i hi
  generalize hn : l.length = n at *
  have HN := hid hn
  have HI0 := hid hi0
  have HS2 := hid hs2
  clear hv hn hq hi hs hi0 hs2
  by_cases h0 : n = 0
  · subst h0
    go_enter Try.func5, Try.ntmps5
    go_wp2_with fail
    refine HH.out.mono ?_
    clear HH
    rintro e w' ⟨rfl | ⟨rfl, hnh⟩, rfl⟩
    all_goals
      go_wp2_with fail
      refine (known_any _).mono ?_
      rintro e w2 ⟨rfl, hE2⟩
      have H := hid hE2
      clear hE2
      go_wp2_with fail
      go_ret
      exact ⟨rfl, H.out.toBelow⟩
  go_enter Try.func5, Try.ntmps5
  go_wp2_with fail
  refine HH.out.mono ?_
  clear HH
  have hz1 : ((n : Int) == 0) = false := by simp; omega
  rintro e w' ⟨rfl | ⟨rfl, hnh⟩, rfl⟩
  · go_wp2_with fail
    refine (known_any _).mono ?_
    rintro e w2 ⟨rfl, hE2⟩
    have H := hid hE2
    clear hE2
    go_wp2_with fail
    go_ret
    exact ⟨rfl, H.out.toBelow⟩
  obtain ⟨hn100, hb4⟩ := hnh
  rw [HN.out] at hn100
  have HB4 := hid hb4
  clear hb4
  go_wp2_with fail
  refine (known_any _).mono ?_
  rintro e w2 ⟨rfl, hE2⟩
  have hz2 := hE2.size
  go_wp2_with fail
  refine (new_ok _).mono ?_
  rintro e w3 ⟨rfl, hn3, hE3⟩
  generalize w2.heap.size = bn at *
  have HS := hid (show Net1 w w3 bn (fun _ => False) none [] from ⟨hn3, hE2.ext hE3, hz2⟩)
  clear hn3 hE3 hE2
  go_wp2_with fail
  go_loopw [8] (fun y wr => ∃ (j : Nat) (S : BS) (g : Option Nat), j ≤ n ∧ y = .int .i64 j ∧ Net1 w wr bn S g ((l.take j).map mailOf)) (fun y _ => n - (intOf y).toNat)
  case atStart => exact ⟨0, _, _, by omega, rfl, HS.out⟩
  case round =>
    clear HS
    obtain ⟨j, S, g, hj, rfl, hs⟩ := hrel
    by_cases hlt : j < n
    · have hjm : j < l.length := by rw [HN.out]; exact hlt
      obtain ⟨b1, o1, c1, rfl, hb1, hl1, hr1, hc1⟩ := (HV.out.ext EOp.ok hs.ext).at_ EOp.ok hjm
      have hts := take_succ_get l j hjm
      have hob := HB4.out l[j] (List.getElem_mem _)
      generalize hm : l[j]'hjm = o at *
      obtain ⟨bv1, rfl, hv1⟩ := hr1
      have e1 := hc1 1 _ rfl
      have e2 := hc1 2 _ rfl
      have e3 := hc1 3 _ rfl
      have hz3 : EOp.size = 5 := rfl
      simp only [hz3] at e1 e2 e3
      obtain ⟨A1, d1, rfl, _⟩ := hv1.shape
      have HSS := hid hs
      have HV1 := hid hv1
      have HT := hid (show (l.take (j + 1)).map mailOf = (l.take j).map mailOf ++ [mailOf o] from by rw [hts, List.map_append]; rfl)
      have HL := hid (show ((l.take j).map mailOf).length < 2000 from by simp; omega)
      clear hz3 hc1 hm hs hts hv1
      go_wp2_with fail
      refine wp_region_parts [0, 1, 2, 3, 4, 6, 7, 8, 9, 11, 12, 13, 14] [5, 10, 15, 16] [17] (specOf []) (fun w' => Ext wr w') stable_nil (stableC_ext _) (by kernel_rfl) (by kernel_rfl) (Keep.drew (Keep.refl _ _)) ?_
      iterate 13
        (try simp only [Act.put, List.setIfInBounds_toArray, List.set_cons_zero, List.set_cons_succ])
        refine pure_run rfl rfl ?_
        apply Exists.intro
        refine ⟨fun w' => ?_, ?_⟩
        · go_simp
          rfl
      refine pure_nil ?_
      iterate 4
        (try simp only [Act.put, List.setIfInBounds_toArray, List.set_cons_zero, List.set_cons_succ])
        refine growP_run rfl rfl rfl ?_
        apply Exists.intro
        refine ⟨fun w' hC hK => ?_, ?_⟩
        · have e1 := (hC.cell (lt_of_cell e1) id).trans e1
          have e2 := (hC.cell (lt_of_cell e2) id).trans e2
          have e3 := (hC.cell (lt_of_cell e3) id).trans e3
          go_simp
          rfl
      refine growP_nil fun w4 hC hK => ?_
      change wpList _ _ _ (_ :: []) _ _
      have HS4 := hid (HSS.out.step_ext hC)
      have HV4 := hid (HV1.out.ext EU8.ok hC)
      clear hC hK HV1 HSS e1 e2 e3
      (try simp only [Act.put, List.setIfInBounds_toArray, List.set_cons_zero, List.set_cons_succ])
      go_wp2_with fail
      refine (send_yes _ _ _ _ _ _ (mailOf o) _ HS4.out.net HV4.out HL.out (by show o.b.length ≤ 60000; omega)).mono ?_
      rintro e w5 ⟨rfl, g5, hn5, hg5, hk5⟩
      have H5 := hid (HS4.out.step_net hn5 hk5)
      rw [← HT.out] at H5
      clear hn5 hg5 hk5 HS4 HV4
      go_wp2_with fail
      refine NoPanic.normal ?_
      go_wp2
      exact ⟨⟨j + 1, _, _, by omega, by go_num, H5.out⟩, by simp [intOf]; omega⟩
    · obtain rfl : j = n := by omega
      have hall : l.take j = l := List.take_of_length_le (by rw [HN.out]; exact Nat.le_refl _)
      rw [hall] at hs
      have hml : (l.map mailOf).length = j := by rw [List.length_map, HN.out]
      have hby : ∀ m ∈ l.map mailOf, m.b.length ≤ 60000 := fun m hm => by
        obtain ⟨o, ho, rfl⟩ := List.mem_map.1 hm
        have := HB4.out o ho
        show o.b.length ≤ 60000; omega
      generalize l.map mailOf = ms at *
      have HML := hid hml
      have HBY := hid hby
      have H0 := hid hs
      clear hs hall hml hby
      obtain ⟨k, hk⟩ : ∃ k, k = i0 % j := ⟨_, rfl⟩
      have hkl : k < j := by rw [hk]; exact Nat.mod_lt _ (by omega)
      have hrem : ((i0 : Int) % (j : Int)) = (k : Int) := by rw [hk]; exact (Int.natCast_emod _ _).symm
      clear hk
      go_wp2_with fail
      refine (all_ok _ _ _ _ _ H0.out.net (by rw [HML.out]; omega) HBY.out).mono ?_
      rintro e w1 ⟨v1, rfl, hv1, hE1⟩
      obtain ⟨A1, c1, rfl, hc1, hc1'⟩ := hv1.shape
      rw [HML.out] at hv1 hc1 ⊢
      have HV1 := hid (hv1.more (S' := fun q => wr.heap.size ≤ q ∧ q < w1.heap.size) EMail.ok fun q h1 h2 => ⟨h2, h1⟩)
      have H1 := hid (H0.out.step_ext hE1)
      have HZ1 := hid hE1.size
      have HLT0 := hid H0.out.net.lt
      clear hv1 hE1 H0
      unfold maxLen at hc1'
      go_wp2_with fail
      rw [hrem]
      refine (late_yes _ _ _ _ _ k H1.out.net (by rw [HML.out]; exact hkl) (by rw [HML.out]; omega)).mono ?_
      rintro e w2 ⟨rfl, g1, hn2, hg1, hk2⟩
      obtain ⟨m, hm⟩ : ∃ m, ms[k]'(by rw [HML.out]; exact hkl) = m := ⟨_, rfl⟩
      rw [hm] at hn2
      have HM := hid hm
      have H2 := hid (H1.out.step_net hn2 hk2)
      have HZ12 := hid hk2.size
      have HNF := hid (show ∀ q, NF bn g1 q → q < wr.heap.size ∨ w1.heap.size ≤ q from fun q hq => by
        have hz := HZ1.out
        have hl0 := HLT0.out
        rcases hq with rfl | hq
        · exact .inl hl0.1
        · rcases hg1 with rfl | ⟨k', rfl, hk'⟩
          · exact .inl (hl0.2 q hq).2
          · injection hq with hq; subst hq; exact .inr hk')
      have HV2 := hid (HV1.out.keep EMail.ok hk2 fun q hq h => by
        have hl0 := HLT0.out
        rcases h with rfl | h
        · omega
        · have := (hl0.2 q h).2; omega)
      obtain ⟨ms1, hms1⟩ : ∃ ms1, ms1 = ms.eraseIdx k ++ [m] := ⟨_, rfl⟩
      rw [← hms1] at H2
      have hm1l : ms1.length = j := by rw [hms1, List.length_append, List.length_eraseIdx, HML.out, if_pos (by omega)]; simp; omega
      have hby1 : ∀ x ∈ ms1, x.b.length ≤ 60000 := fun x hx => by
        rw [hms1] at hx
        rcases List.mem_append.1 hx with hx | hx
        · exact HBY.out x (List.mem_of_mem_eraseIdx hx)
        · simp at hx; subst hx; rw [← hm]; exact HBY.out _ (List.getElem_mem _)
      have HM1 := hid hms1
      have HM1L := hid hm1l
      have HBY1 := hid hby1
      have hmb : m.b.length ≤ 60000 := by rw [← hm]; exact HBY.out _ (List.getElem_mem _)
      clear hn2 hg1 hk2 hm hms1 hm1l hby1 H1 HV1 hrem hmax
      go_wp2_with fail
      refine (all_ok _ _ _ _ _ H2.out.net (by rw [HM1L.out]; omega) HBY1.out).mono ?_
      rintro e w3 ⟨v3, rfl, hv3, hE3⟩
      obtain ⟨A3, c3, rfl, hc3, hc3'⟩ := hv3.shape
      rw [HM1L.out] at hv3 hc3 ⊢
      have HV3 := hid (hv3.more (S' := fun q => w2.heap.size ≤ q ∧ q < w3.heap.size) EMail.ok fun q h1 h2 => ⟨h2, h1⟩)
      have HLT2 := hid H2.out.net.lt
      have H3 := hid (H2.out.step_ext hE3)
      have HW3 := hid (HV2.out.ext EMail.ok hE3)
      have HZ3 := hid hE3.size
      clear hv3 hE3 HV2
      unfold maxLen at hc3'
      obtain ⟨hsf, hvf⟩ := front_fact (P := Try.prog) EMail.ok ty_mail HW3.out (hi := k) (b := (k : Int)) rfl (by rw [HML.out]; omega)
      obtain ⟨A4, hst, hvt⟩ := tail_fact (P := Try.prog) EMail.ok ty_mail HW3.out (lo := k + 1) (a := (k : Int) + 1) (by omega) (by rw [HML.out]; omega)
      have hfl : (ms.take k).length = k := by rw [List.length_take, HML.out]; omega
      have htl : (ms.drop (k + 1)).length = j - (k + 1) := by rw [List.length_drop, HML.out]
      have HVF := hid hvf
      have HVT := hid hvt
      clear hvf hvt
      go_wp2_with (at_builtin; refine wpList_own_append (E := EMail) (ys := ms.take k) _ rfl (.tmp 70) (.tmp 73) EMail.ok ty_mail rfl rfl rfl (Own.nil _ w3.heap.size _ (fun q => wr.heap.size ≤ q ∧ q < w1.heap.size)) HVF.out ?c1 ?c2 ?c3 ?c4 ?_)
      case c1 => intro g hg; cases hg
      case c2 => rw [hfl]; simp; omega
      case c3 => rw [hfl]; simp [maxLen]; omega
      case c4 => exact Nat.le_refl _
      intro v5 w5 ho5 hk5 hb5
      obtain ⟨A5, c5, e5, hc5, _⟩ := ho5.shape
      rw [hfl] at e5
      subst e5
      have HE5 := hid (show Ext w3 w5 from hk5.mono fun q _ e => by cases e)
      have HO5 := hid ho5
      have HT5 := hid (HVT.out.ext EMail.ok HE5.out)
      have HW5 := hid (HW3.out.ext EMail.ok HE5.out)
      have HL5 := hid (fun g (e : (Value.slice A5 k c5).ownBlock = some g) => (ho5.lt e).1)
      have HB31 := hid (show w1.heap.size ≤ w3.heap.size from by have := HZ3.out; have := HZ12.out; omega)
      clear ho5 hk5 hb5 HVF hsf
      go_wp2_with (at_builtin; refine wpList_own_append (E := EMail) (ys := ms.drop (k + 1)) _ rfl (.tmp 75) (.tmp 79) EMail.ok ty_mail rfl rfl rfl HO5.out HT5.out ?d1 ?d2 ?d3 ?d4 ?_)
      case d1 => intro g hg; have := HL5.out g hg; have := HB31.out; exact ⟨fun h => by omega, fun h => by omega⟩
      case d2 => rw [hfl, htl]; omega
      case d3 => rw [hfl, htl]; simp only [maxLen]; omega
      case d4 => exact HE5.out.size
      intro v6 w6 ho6 hk6 hb6
      obtain ⟨A6, c6, e6, hc6, _⟩ := ho6.shape
      have hl6 : (ms.take k ++ ms.drop (k + 1)).length = j - 1 := by rw [List.length_append, hfl, htl]; omega
      rw [hl6] at e6
      subst e6
      have HE6 := hid (HE5.out.trans hk6 fun q hq e => by have := HL5.out q e; omega)
      have HO6 := hid (ho6.more (S' := fun q => wr.heap.size ≤ q ∧ q < w1.heap.size) EMail.ok fun q _ h => by first | exact h | exact Or.elim h id id)
      have HW6 := hid (HW3.out.ext EMail.ok HE6.out)
      have HL6 := hid (fun g (e : (Value.slice A6 (j - 1) c6).ownBlock = some g) => ho6.lt e)
      clear ho6 hk6 hb6 HO5 HT5 HW5 HL5 HVT hst
      obtain ⟨b7, o7, c7, rfl, hb7, hl7, hr7, hcc7⟩ := HW6.out.at_ EMail.ok (k := k) (by rw [HML.out]; exact hkl)
      rw [show ms[k]'(by rw [HML.out]; exact hkl) = m from HM.out] at hr7
      obtain ⟨bv7, rfl, hv7⟩ := hr7
      have e0 := hcc7 0 _ rfl
      have e1 := hcc7 1 _ rfl
      have e2 := hcc7 2 _ rfl
      have hz3 : EMail.size = 3 := rfl
      simp only [hz3, Nat.add_zero] at e0 e1 e2
      obtain ⟨A7, d7, rfl, _⟩ := hv7.shape
      have HV7 := hid hv7
      clear hz3 hcc7 hv7
      have hE8 : Ext w6 (w6.alloc (.cells #[.int .i64 m.sess, .bool m.up, .slice A7 m.b.length d7] TMAIL)) := (Keep.refl _ _).alloc _
      have hrow : RowS (w6.alloc (.cells #[.int .i64 m.sess, .bool m.up, .slice A7 m.b.length d7] TMAIL)) (fun k => k = w6.heap.size) 3 (.slice (some ⟨w6.heap.size, 0, none⟩) 1 1) 1 [.int .i64 m.sess, .bool m.up, .slice A7 m.b.length d7] :=
        RowS.new (w := w6) (sz := 3) (cs := [_, _, _]) (n := 1) rfl (by simp [maxLen])
      have HR := hid hrow
      have HO8 := hid (HO6.out.ext EMail.ok hE8)
      have HV8 := hid (HV7.out.ext EU8.ok hE8)
      have HE8 := hid (HE6.out.ext hE8)
      clear hrow hE8
      go_wp2_with (at_builtin; refine wpList_own_append2 (P := Try.prog) (E := EMail) (v := .slice A6 (j - 1) c6) (ys := [m]) _ rfl (.tmp 81) (.tmp 86) EMail.ok ty_mail rfl rfl rfl HO8.out HR.out (Cells.single ⟨_, rfl, HV8.out⟩) ?f1 ?f2 ?f3 ?f4 ?_)
      case f1 => intro g hg; have := HL6.out g hg; have := HB31.out; exact ⟨fun h => by omega, fun h => by omega⟩
      case f2 => rw [hl6]; simp; omega
      case f3 => rw [hl6]; simp [maxLen]; omega
      case f4 => exact HE8.out.size
      intro v9 w9 ho9 hk9 hb9
      have hl9 : (ms.take k ++ ms.drop (k + 1) ++ [m]).length = j := by rw [List.length_append, hl6]; simp; omega
      have hw9 : ms.take k ++ (ms.drop (k + 1) ++ [m]) = ms1 := by rw [HM1.out, List.eraseIdx_eq_take_drop_succ, List.append_assoc]
      have ho9' : Own EMail w9 w3.heap.size TMAIL (fun q => wr.heap.size ≤ q ∧ q < w1.heap.size) v9 ms1 := by
        rw [← hw9]; exact ho9.more EMail.ok fun q _ h => by first | exact h | exact Or.elim h id id
      obtain ⟨A9, c9, e9, hc9, _⟩ := ho9'.shape
      rw [HM1L.out] at e9
      subst e9
      have HE9 := hid (HE8.out.trans hk9 fun q hq e => by have := HL6.out q e; omega)
      have HO9 := hid ho9'
      have HN9 := hid (HV3.out.ext EMail.ok HE9.out)
      have H9 := hid (H3.out.step_ext HE9.out)
      have HZ9 := hid HE9.out.size
      clear ho9 hk9 hb9 hw9 hl9 ho9' HR HO8 HV8 HE8 HO6 HW6 HE6 HL6 HE5 HV7 H3 HV3 HW3 hl6 hfl htl e0 e1 e2
      have hk1 : k < ms1.length := by rw [HM1L.out]; exact hkl
      obtain ⟨m2, hm2⟩ : ∃ m2, ms1[k] = m2 := ⟨_, rfl⟩
      have hm2b : m2.b.length ≤ 60000 := by rw [← hm2]; exact HBY1.out _ (List.getElem_mem _)
      have HTW := hid (twice_yes w9 _ bn g1 ms1 k H9.out.net hk1 (by rw [HM1L.out]; omega) (by rw [hm2]; exact hm2b))
      rw [hm2] at HTW
      obtain ⟨ms2, hms2⟩ : ∃ ms2, ms2 = ms1.take (k + 1) ++ m2 :: ms1.drop (k + 1) := ⟨_, rfl⟩
      rw [← hms2] at HTW
      have hm2l : ms2.length = j + 1 := by rw [hms2, List.length_append, List.length_cons, List.length_take, List.length_drop, HM1L.out]; omega
      have hby2 : ∀ x ∈ ms2, x.b.length ≤ 60000 := fun x hx => by
        rw [hms2] at hx
        rcases List.mem_append.1 hx with hx | hx
        · exact HBY1.out x (List.mem_of_mem_take hx)
        · rcases List.mem_cons.1 hx with rfl | hx
          · exact hm2b
          · exact HBY1.out x (List.mem_of_mem_drop hx)
      have htk1 : ms1.take (k + 1) = ms1.take k ++ [m2] := by rw [take_succ_get _ _ hk1, hm2]
      have hc1' : (ms2.take (k + 1)).drop k = [m2] := by
        rw [hms2, List.take_append_of_le_length (by simp; omega), List.take_take, Nat.min_self, htk1, List.drop_append_of_le_length (by simp; omega), List.drop_of_length_le (by simp; omega)]; rfl
      have hc2' : (ms2.take (k + 2)).drop (k + 1) = [m2] := by
        have hl : (ms1.take (k + 1)).length = k + 1 := by simp; omega
        rw [hms2, show k + 2 = (ms1.take (k + 1)).length + 1 from by rw [hl], List.take_length_add_append, hl.symm, hl, List.drop_append_of_le_length (by omega), List.drop_of_length_le (by omega)]; rfl
      have HM2 := hid hms2
      have HM2L := hid hm2l
      have HBY2 := hid hby2
      have HC1 := hid hc1'
      have HC2 := hid hc2'
      clear hm2 hms2 hm2l hby2 htk1 hc1' hc2' hm2b
      go_wp2_with fail
      refine HTW.out.mono ?_
      rintro e w10 ⟨rfl, g2, hn10, hg10, hk10⟩
      have hz9 := HZ9.out
      have hlt2 := HLT2.out
      have hz3 := HZ3.out
      have hz12 := HZ12.out
      have hnf10 : ∀ q, NF bn g1 q → q < w2.heap.size := fun q hq => by
        rcases hq with rfl | hq
        · exact hlt2.1
        · exact (hlt2.2 q hq).2
      have HO10 := hid (HO9.out.keep EMail.ok hk10 (fun q hq h => by have := HNF.out q h; omega) (fun q hq h => by have := (HO9.out.lt hq).1; have := hnf10 q h; omega))
      have HN10 := hid (HN9.out.keep EMail.ok hk10 (fun q hq h => by have := hnf10 q h; omega))
      have H10 := hid (H9.out.step_net hn10 hk10)
      clear hn10 hg10 hk10 hnf10 HO9 HN9 H9 HTW hz9 hlt2 hz3 hz12
      go_wp2_with fail
      refine (all_ok _ _ _ _ _ H10.out.net (by rw [HM2L.out]; omega) HBY2.out).mono ?_
      rintro e w11 ⟨v11, rfl, hv11, hE11⟩
      obtain ⟨A11, c11, rfl, hc11, hc11'⟩ := hv11.shape
      rw [HM2L.out] at hv11 hc11 ⊢
      have HV11 := hid hv11
      have HO11 := hid ((HO10.out.sl EMail.ok).ext EMail.ok hE11)
      have HN11 := hid (HN10.out.ext EMail.ok hE11)
      have H11 := hid (H10.out.step_ext hE11)
      clear hv11 hE11 HO10 HN10 H10
      unfold maxLen at hc11'
      obtain ⟨A12, hs12, hv12⟩ := cut_fact (P := Try.prog) EMail.ok ty_mail HV11.out (lo := k) (hi := k + 1) (a := (k : Int)) (b := (k : Int) + 1) rfl (by omega) (by omega) (by rw [HM2L.out]; omega)
      obtain ⟨A13, hs13, hv13⟩ := cut_fact (P := Try.prog) EMail.ok ty_mail HV11.out (lo := k + 1) (hi := k + 2) (a := (k : Int) + 1) (b := (k : Int) + 2) (by omega) (by omega) (by omega) (by rw [HM2L.out]; omega)
      rw [HC1.out] at hv12
      rw [HC2.out] at hv13
      rw [show k + 1 - k = 1 from by omega] at hs12 hv12
      rw [show k + 2 - (k + 1) = 1 from by omega] at hs13 hv13
      have HV12 := hid hv12
      have HV13 := hid hv13
      clear hv12 hv13
      have hwr1 : IntKind.i64.wrap ((k : Int) + 1) = (k : Int) + 1 := IntWalk.i64_in _ (by omega)
      have hwr2 : IntKind.i64.wrap ((k : Int) + 2) = (k : Int) + 2 := IntWalk.i64_in _ (by omega)
      have hwr3 : IntKind.i64.wrap ((j : Int) + 1) = (j : Int) + 1 := IntWalk.i64_in _ (by omega)
      go_wp2_with fail
      refine wp_region_grow (specOf [(9, fun v w' => v = .bool true), (32, fun v w' => v = .bool true)])
        (fun w' => Ext w11 w') ?_ (stableC_ext _) (by kernel_rfl) (by kernel_rfl) (Keep.drew (Keep.refl _ _)) ?_
      · exact stable_cons (fun v w w' h he => h) (stable_cons (fun v w w' h he => h) stable_nil)
      iterate 9
        (try simp only [Act.put, List.setIfInBounds_toArray, List.set_cons_zero, List.set_cons_succ])
        refine grow_run rfl rfl rfl ?_
        apply Exists.intro
        refine ⟨fun w' hC hK => ?_, ?_⟩
        · go_simp
          rfl
      (try simp only [Act.put, List.setIfInBounds_toArray, List.set_cons_zero, List.set_cons_succ])
      refine grow_eff rfl rfl rfl (fun w' hC hK => ?_) (fun v9 hv9 => ?_)
      · unfold growAt
        go_simp
        refine grow_call ((same_yes w' _ _ _ _ ms1 (HN11.out.ext EMail.ok hC) (HO11.out.ext EMail.ok hC)).mono ?_)
        rintro e w9 ⟨rfl, h2⟩
        exact ⟨_, rfl, h2, rfl⟩
      obtain rfl : v9 = .bool true := hv9.head.elim fun _ h => h.2
      clear hv9
      iterate 22
        (try simp only [Act.put, List.setIfInBounds_toArray, List.set_cons_zero, List.set_cons_succ])
        refine grow_run rfl rfl rfl ?_
        apply Exists.intro
        refine ⟨fun w' hC hK => ?_, ?_⟩
        · go_simp
          rfl
      (try simp only [Act.put, List.setIfInBounds_toArray, List.set_cons_zero, List.set_cons_succ])
      refine grow_eff rfl rfl rfl (fun w' hC hK => ?_) (fun v10 hv10 => ?_)
      · unfold growAt
        go_simp
        refine grow_call ((same_yes w' _ _ _ _ [m2] (HV12.out.ext EMail.ok hC) (HV13.out.ext EMail.ok hC)).mono ?_)
        rintro e w9 ⟨rfl, h2⟩
        exact ⟨_, rfl, h2, rfl⟩
      obtain rfl : v10 = .bool true := hv10.head.elim fun _ h => h.2
      clear hv10
      iterate 2
        (try simp only [Act.put, List.setIfInBounds_toArray, List.set_cons_zero, List.set_cons_succ])
        refine grow_run rfl rfl rfl ?_
        apply Exists.intro
        refine ⟨fun w' hC hK => ?_, ?_⟩
        · go_simp
          rfl
      refine grow_nil fun w14 hC _ => ?_
      have H14 := hid (H11.out.step_ext hC)
      clear hC HV12 HV13 HV11 HO11 HN11 H11 hwr1 hwr2 hwr3 hs12 hs13
      go_wp2_with fail
      refine (cut_ok _ _ _ _ _ _ H14.out.net).mono ?_
      rintro e w15 ⟨rfl, hn15, hk15⟩
      have hfl : (ms2.filter (other sess)).length ≤ j + 1 := by rw [← HM2L.out]; exact List.length_filter_le _ _
      have hoth : ∀ x ∈ ms2.filter (other sess), other sess x = true := fun x hx => (List.mem_filter.1 hx).2
      have hby3 : ∀ x ∈ ms2.filter (other sess), x.b.length ≤ 60000 := fun x hx => HBY2.out x (List.mem_filter.1 hx).1
      rw [HM2L.out]
      have H15 := hid (H14.out.step_net hn15 hk15)
      clear hn15 hk15 H14
      generalize ms2.filter (other sess) = ms3 at *
      obtain ⟨r, hr⟩ : ∃ r, ms3.length = r := ⟨_, rfl⟩
      rw [hr] at hfl ⊢
      have HR3 := hid hr
      have HOTH := hid hoth
      have HBY3 := hid hby3
      clear hr hoth hby3
      go_wp2_with fail
      refine (all_ok _ _ _ _ _ H15.out.net (by rw [HR3.out]; omega) HBY3.out).mono ?_
      rintro e w16 ⟨v16, rfl, hv16, hE16⟩
      obtain ⟨A16, c16, rfl, hc16, hc16'⟩ := hv16.shape
      rw [HR3.out] at hv16 hc16 ⊢
      have HV16 := hid hv16
      have H16 := hid (H15.out.step_ext hE16).ext
      clear hv16 hE16 H15
      unfold maxLen at hc16'
      go_wp2_with fail
      go_loop [18] (fun y => ∃ (q : Nat), q ≤ r ∧ y = .int .i64 q) (fun y => r - (intOf y).toNat)
      case atStart => exact ⟨0, by omega, rfl⟩
      case round =>
        obtain ⟨q, hq, rfl⟩ := hrel
        by_cases hqr : q < r
        · obtain ⟨b17, o17, c17, rfl, _, _, hr17, hcc17⟩ := HV16.out.at_ EMail.ok (k := q) (by rw [HR3.out]; exact hqr)
          have hot := HOTH.out (ms3[q]'(by rw [HR3.out]; exact hqr)) (List.getElem_mem _)
          generalize ms3[q]'(by rw [HR3.out]; exact hqr) = m3 at *
          obtain ⟨bv17, rfl, _⟩ := hr17
          have e0 := hcc17 0 _ rfl
          have hz3 : EMail.size = 3 := rfl
          simp only [hz3, Nat.add_zero] at e0
          have hne : (m3.sess == sess) = false := by simpa [other] using hot
          clear hz3 hcc17 hot
          go_wp2
          exact ⟨⟨q + 1, by omega, by go_num⟩, by simp [intOf]; omega⟩
        · obtain rfl : q = r := by omega
          go_wp2
          go_ret
          exact ⟨by simp, H16.out.toBelow⟩
end Go.Proofs.Ytjpbfdkpkeaofaa
