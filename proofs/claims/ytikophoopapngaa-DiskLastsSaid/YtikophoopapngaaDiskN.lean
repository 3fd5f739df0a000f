/- Behind a crash a file has what lasted: the walk. -/
import Derived.Test.YtikophoopapngaaDiskM
import Derived.SizedLaws
set_option linter.unusedSimpArgs false
set_option linter.unusedVariables false
namespace Go.Proofs.Ytikophoopapngaa
open Go.RowKit Go.Maps
set_option linter.unusedVariables false

/-- The first j rows, one behind the other; the file then. -/
def headL (l : List (List UInt8)) (j : Nat) : List UInt8 := (l.take j).flatten
def fileL (l : List (List UInt8)) (j L : Nat) : List DC := if j = 0 then [] else [⟨[102], headL l j, L⟩]
theorem headL_succ (l : List (List UInt8)) (j : Nat) (h : j < l.length) : headL l (j + 1) = headL l j ++ l[j] := by
  unfold headL; rw [take_succ_get _ _ h, List.flatten_append]; simp
theorem headL_le (l : List (List UInt8)) (j : Nat) : (headL l j).length ≤ l.flatten.length := flat_le l j
theorem head_bound {R : Nat} {l : List (List UInt8)} (h : ∀ x ∈ l, x.length ≤ R) : ∀ j, (headL l j).length ≤ j * R
  | 0 => by rw [show headL l 0 = [] from rfl]; exact Nat.zero_le _
  | j + 1 => by
    have ih := head_bound h j
    rw [Nat.add_mul, Nat.one_mul]
    by_cases hj : j < l.length
    · rw [headL_succ l j hj, List.length_append]
      have := h _ (List.getElem_mem hj)
      exact Nat.add_le_add ih this
    · have : headL l (j + 1) = headL l j := by unfold headL; rw [List.take_of_length_le (by omega), List.take_of_length_le (by omega)]
      rw [this]; exact Nat.le_trans ih (Nat.le_add_right _ _)
theorem fileL_app {l : List (List UInt8)} {j L : Nat} (h : j < l.length) (h0 : j = 0 → L = 0) (hs : l.flatten.length ≤ 5000) : appR (fileL l j L) ⟨10000, false, -1⟩ [102] l[j] = (0, fileL l (j + 1) L) := by
  have h1 := headL_le l (j + 1)
  have e1 : fileL l (j + 1) L = [⟨[102], headL l j ++ l[j], L⟩] := by rw [fileL, if_neg (Nat.succ_ne_zero j), headL_succ l j h]
  rw [headL_succ l j h, List.length_append] at h1
  rw [e1]
  by_cases hj : j = 0
  · subst hj
    have e2 : fileL l 0 L = [] := rfl
    rw [e2, one_app (by omega) rfl, h0 rfl]
    simp [headL]
  · have e2 : fileL l j L = [⟨[102], headL l j, L⟩] := by rw [fileL, if_neg hj]
    rw [e2, two_app (by omega)]
theorem fileL_sync {l : List (List UInt8)} {j L : Nat} (h : 0 < j) : syncR (fileL l j L) ⟨10000, false, -1⟩ [102] = (0, fileL l j (headL l j).length) := by
  have e (L : Nat) : fileL l j L = [⟨[102], headL l j, L⟩] := by rw [fileL, if_neg (by omega)]
  rw [e, e, one_sync]
/-- How much is left of all, behind a crash. -/
def leftL (x : List UInt8) (L k : Nat) : Nat := L + min k (x.length - L)
theorem crash_read {l : List (List UInt8)} {i L k : Nat} : (readR ((fileL l i L).map (crashC k)) [102]).2 = (headL l i).take (leftL (headL l i) L k) := by
  unfold fileL
  split
  · rename_i h
    subst h
    rw [show headL l 0 = [] from rfl, List.take_nil]
    rfl
  · show (readR [⟨[102], (headL l i).take (keptC k ⟨[102], headL l i, L⟩), _⟩] [102]).2 = _
    rw [one_read]
    rfl
theorem crash_read2 {l : List (List UInt8)} {i L k k2 : Nat} (hL : L ≤ (headL l i).length) : (readR (((fileL l i L).map (crashC k)).map (crashC k2)) [102]).2 = (headL l i).take (leftL (headL l i) L k) := by
  unfold fileL
  split
  · rename_i h
    subst h
    rw [show headL l 0 = [] from rfl, List.take_nil]
    rfl
  · obtain ⟨K, hK⟩ : ∃ K, leftL (headL l i) L k = K := ⟨_, rfl⟩
    have hKl : K ≤ (headL l i).length := by rw [← hK]; unfold leftL; omega
    have e : [DC.mk [102] (headL l i) L].map (crashC k) = [⟨[102], (headL l i).take K, K⟩] := by rw [← hK]; rfl
    rw [e, one_crash (by rw [List.length_take]; omega), one_read, hK, List.length_take]
    have : K + min k2 (min K (headL l i).length - K) = K := by omega
    rw [this, List.take_take, Nat.min_self]

set_option maxRecDepth 20000 in
set_option maxHeartbeats 12800000 in
theorem lasts_walk (lv : Value) (l : List (List UInt8)) (z : Int) (hz : (Lit.int .u8 z).wf = true) (keep : Int) (hkp : (Lit.int .i64 keep).wf = true) (again : Int) (w : World) (hl : Sl EBytes w (fun k => k < w.heap.size) lv l) (hq : ∀ x ∈ l, x.length ≤ 140737488355328) :
    Calls Try.prog 3 #[lv, .int .u8 z, .int .i64 keep, .int .i64 again] w fun e w' => e = .returned (.bool true) ∧ Ext w w' := by
  obtain ⟨A1, c1, rfl, hc1, hm1⟩ := hl.shape
  unfold maxLen at hm1
  have HL := hid hl
  have HQ := hid hq
  have HZ8 := hid hz
  have HKP := hid hkp
  clear hz hkp
  have HEND := hid (show ∀ wx, Ext w wx → Calls Try.prog 9 #[] wx fun e w' => e = .returned (.bool true) ∧ Ext w w' from fun wx h => (known13_ok wx).mono fun e w' h2 => ⟨h2.1, h.ext h2.2⟩)
  clear hl hq
  have hpe := eql_pdsk
  obtain ⟨m, hm⟩ : ∃ m, l.length = m := ⟨_, rfl⟩
  rw [hm] at hc1 ⊢
  have HM := hid hm
  clear hm
  go_enter Try.func3, Try.ntmps3
  go_wp2_with fail
  go_loop [9, 10] (fun x y => ∃ (s : Int) (j : Nat), j ≤ m ∧ y = .int .i64 j ∧ x = .int .i64 s ∧ (j ≤ 100 → s = ((headL l j).length : Int))) (fun _ y => m - (intOf y).toNat)
  case atStart => exact ⟨0, 0, by omega, rfl, rfl, fun _ => by simp [headL]⟩
  case round =>
    obtain ⟨s, j, hj, rfl, rfl, hs⟩ := hrel
    by_cases hlt : j < m
    · obtain ⟨b, off, c0, rfl, _, _, ⟨u, rfl, hu⟩, hc⟩ := HL.out.at_ EBytes.ok (k := j) (by rw [HM.out]; exact hlt)
      have hcell := hc 0 _ rfl
      obtain ⟨A', c', rfl, hlc', hcm'⟩ := hu.shape
      have e1 : EBytes.size = 1 := rfl
      simp only [e1, Nat.mul_one, Nat.add_zero] at hcell
      have HS := hid hs
      have HSU := hid (show (headL l (j + 1)).length = (headL l j).length + (l[j]'(by rw [HM.out]; exact hlt)).length from by rw [headL_succ l j (by rw [HM.out]; exact hlt), List.length_append])
      have HBD := hid (show j ≤ 99 → (headL l (j + 1)).length ≤ 14073748835532800 from fun h =>
        Nat.le_trans (head_bound HQ.out (j + 1)) (Nat.le_trans (Nat.mul_le_mul_right _ (show j + 1 ≤ 100 by omega)) (by decide)))
      clear hs hc hu e1
      generalize (l[j]'(by rw [HM.out]; exact hlt)).length = q at *
      go_wp2
      go_round
      case rel => exact ⟨_, j + 1, by omega, by go_num, rfl, fun h => by
        have h1 := HS.out (by omega)
        have h2 := HBD.out (by omega)
        have h3 := HSU.out
        first | (rw [h1]; omega) | (rw [h1]; unfold wrap64; omega) | (subst h1; simp only [IntKind.wrap_i64]; omega)⟩
      case measure => simp [intOf]; omega
    · obtain rfl : j = m := by omega
      have HS := hid hs
      clear hs
      have hend : ∀ {e : Ending} {w2 : World}, True := trivial
      by_cases g1 : 5000 < s
      · go_wp2_with fail
        refine (HEND.out _ (Keep.refl _ _)).mono ?_
        rintro e w2 ⟨rfl, hz⟩
        have HZ := hid hz
        clear hz
        go_wp2
        go_ret
        exact ⟨rfl, HZ.out⟩
      · by_cases g2 : 100 < j
        · have g2X : (100 : Int) < j := by omega
          go_wp2_with fail
          refine (HEND.out _ (Keep.refl _ _)).mono ?_
          rintro e w2 ⟨rfl, hz⟩
          have HZ := hid hz
          clear hz
          go_wp2
          go_ret
          exact ⟨rfl, HZ.out⟩
        · have g2X : ¬ (100 : Int) < j := by omega
          have HSM := hid (show l.flatten.length ≤ 5000 from by
            have h1 := HS.out (by omega)
            have h2 : headL l j = l.flatten := by unfold headL; rw [List.take_of_length_le (by have := HM.out; omega)]
            rw [h2] at h1
            omega)
          clear HS
          go_wp2_with fail
          refine (known13_ok _).mono ?_
          rintro e w1 ⟨rfl, hE⟩
          have HE := hid hE
          clear hE HEND g1 g2 g2X
          go_wp2_with fail
          refine (disk_new_w w w1 10000 (by decide) HE.out).mono ?_
          rintro e w2 ⟨d, B, rfl, hD, _, hE⟩
          have HD := hid hD
          clear hD hE HE
          obtain ⟨zz, rfl⟩ : ∃ zz : Nat, z = zz := by
            have := HZ8.out
            simp [Lit.wf, IntKind.min, IntKind.max, IntKind.signed, IntKind.bits] at this
            exact ⟨z.toNat, by omega⟩
          obtain ⟨S, hS⟩ : ∃ S, zz % 20 = S := ⟨_, rfl⟩
          have hS20 : S < 20 := by omega
          have hmod : (zz : Int) % 20 = (S : Int) := by omega
          have hmod2 : (zz : Int).tmod 20 = (S : Int) := by rw [← hS]; exact (Int.ofNat_tmod zz 20).symm
          have HO := hid (Own.nil (E := EU8) w2 w2.heap.size 5 (fun _ => False))
          have HW2 := hid HD.out.ext.size
          clear hS HZ8 hend
          go_wp2_with fail
          go_loopw [12, 13, 14] (fun X13 X14 Y wr => ∃ (i L : Nat) (B : BS), i ≤ j ∧ Y = .int .i64 i ∧ X14 = .int .i64 L ∧ DskW w wr B d (fileL l i L) ⟨10000, false, -1⟩ ∧ Own EU8 wr w2.heap.size 5 (fun _ => False) X13 (headL l i) ∧ (∀ g, X13.ownBlock = some g → ¬ B g) ∧ L ≤ (headL l i).length ∧ (i = 0 → L = 0) ∧ w2.heap.size ≤ wr.heap.size) (fun _ _ y _ => j - (intOf y).toNat)
          case atStart => exact ⟨0, 0, B, by omega, rfl, rfl, HD.out, HO.out, (fun g hg => by simp [Value.ownBlock] at hg), Nat.zero_le _, (fun _ => rfl), Nat.le_refl _⟩
          case round =>
            obtain ⟨i, L, B, hi, rfl, rfl, hD, hown, hnb, hL, hL0, hwz⟩ := hrel
            obtain ⟨A4, c4, rfl, hl4, hc4⟩ := hown.shape
            have HD := hid hD
            have HOW := hid hown
            have HNB := hid hnb
            have HLL := hid hL
            have HL0 := hid hL0
            have HWZ := hid hwz
            clear hD hown hnb hL hL0 hwz hc4
            by_cases hlt : i < j
            · have hil : i < l.length := by rw [HM.out]; exact hlt
              obtain ⟨b, off, c0, rfl, hbw, _, ⟨u, rfl, hu⟩, hc⟩ := (HL.out.ext EBytes.ok HD.out.ext).at_ EBytes.ok hil
              have hcell := hc 0 _ rfl
              obtain ⟨A', c', rfl, hlc', hcm'⟩ := hu.shape
              have e1 : EBytes.size = 1 := rfl
              simp only [e1, Nat.mul_one, Nat.add_zero] at hcell
              have HAP := hid (fileL_app hil HL0.out HSM.out)
              have HHS := hid (headL_succ l i hil)
              have HLE := hid (headL_le l (i + 1))
              have HU := hid hu
              clear hc hu e1 hcm'
              generalize (l[i]'hil) = x at *
              generalize hnn : (headL l i).length = n at *
              have HNN := hid hnn
              clear hnn hil
              go_wp2_with fail
              refine (disk_append _ _ _ _ _ ⟨#[102]⟩ _ x _ HD.out.is HU.out (by decide)).mono ?_
              rintro e w5 ⟨he, hd, hk⟩
              rw [show (⟨#[102]⟩ : ByteArray).data.toList = [102] from rfl, HAP.out] at he hd
              obtain rfl : e = .returned (.int .u16 0) := he
              have hD5 : DskW w w5 _ d (fileL l (i + 1) L) ⟨10000, false, -1⟩ := HD.out.grow hk hd
              have hnb5 : ∀ g, (Value.slice A4 n c4).ownBlock = some g → ¬ moreB B wr w5 g := fun g e h => by
                rcases h with h | h
                · exact HNB.out g e h
                · have := (HOW.out.lt e).2; omega
              have hcell5 := (hk.cell (lt_of_cell hcell) (fun h => by have : w.heap.size ≤ b := (HD.out.low _ h).1; omega)).trans hcell
              have HOW5 := hid (HOW.out.keep EU8.ok hk (fun _ h => h.elim) HNB.out)
              have HU5 := hid (HU.out.keep EU8.ok hk fun k hb h => by have := (HD.out.low k h).1; omega)
              have HWZ5 := hid (Nat.le_trans HWZ.out hk.size)
              have HNB5 := hid hnb5
              have HD5 := hid hD5
              generalize moreB B wr w5 = B5 at *
              clear hd hk hD5 hnb5 hcell
              have HTOT := hid (show n + x.length ≤ 5000 from by
                have h1 := HLE.out; have h2 := HSM.out; have h3 := congrArg List.length HHS.out
                rw [List.length_append, HNN.out] at h3
                omega)
              go_wp2_with (at_builtin; refine wpList_own_append _ rfl (.tmp 61) (.tmp 65) EU8.ok ty_u8 rfl rfl rfl HOW5.out HU5.out ?c1 ?c2 ?c3 ?c4 ?_)
              case c1 => exact fun g e => ⟨fun h => h.elim, fun h => by have := (HOW5.out.lt e).1; have := HW2.out; omega⟩
              case c2 => have := HTOT.out; rw [HNN.out]; omega
              case c3 => have := HTOT.out; rw [HNN.out]; unfold maxLen; omega
              case c4 => exact HWZ5.out
              intro v' w6 hown6 hk6 hb6
              rw [← HHS.out] at hown6
              obtain ⟨A7, c7, rfl, hl7, hc7⟩ := hown6.shape
              have HL7 := hid (show (headL l (i + 1)).length = n + x.length from by
                have h3 := congrArg List.length HHS.out
                rw [List.length_append, HNN.out] at h3
                exact h3)
              have HD6 := hid (HD5.out.other hk6 (fun k hb e => HNB5.out k e hb) fun k e => Nat.le_trans HW2.out (HOW5.out.lt e).1)
              have HNB6 := hid (show ∀ g, (Value.slice A7 (headL l (i + 1)).length c7).ownBlock = some g → ¬ B5 g from fun g e h => by
                rcases hb6 with h6 | h6
                · rw [h6] at e; exact HNB5.out g e h
                · rw [h6] at e
                  have e := Option.some.inj e
                  have := (HD5.out.low g h).2
                  omega)
              have HWZ6 := hid (Nat.le_trans HWZ5.out hk6.size)
              have HOW6 := hid (own_u8 (S' := fun _ => False) hown6)
              generalize hq : (headL l (i + 1)).length = q at *
              have HQ2 := hid hq
              clear hown6 hk6 hb6 hq hcell5 hl7 hc7 HOW5 HU5 HNB5 HD5
              by_cases hiS : i < S
              · have hiX : (i : Int) < (S : Int) := by omega
                go_wp2_with fail
                refine (disk_sync _ _ _ _ _ ⟨#[102]⟩ HD6.out.is (by decide)).mono ?_
                rintro e w8 ⟨he, hd, hk⟩
                rw [show (⟨#[102]⟩ : ByteArray).data.toList = [102] from rfl, fileL_sync (Nat.succ_pos i), HQ2.out] at he hd
                obtain rfl : e = .returned (.int .u16 0) := he
                have hD8 : DskW w w8 _ d (fileL l (i + 1) q) ⟨10000, false, -1⟩ := HD6.out.step hk hd
                have HD8 := hid hD8
                have HOW8 := hid (HOW6.out.keep EU8.ok hk (fun _ h => h.elim) HNB6.out)
                have HWZ8 := hid (Nat.le_trans HWZ6.out hk.size)
                clear hd hk hD8
                go_wp2
                exact ⟨⟨i + 1, q, B5, by omega, by go_num, rfl, HD8.out, HOW8.out, HNB6.out, by rw [HQ2.out]; exact Nat.le_refl _, (fun h => by omega), HWZ8.out⟩, by simp [intOf]; omega⟩
              · have hiX : ¬ (i : Int) < (S : Int) := by omega
                go_wp2
                exact ⟨⟨i + 1, L, B5, by omega, by go_num, rfl, HD6.out, HOW6.out, HNB6.out, by have := HL7.out; have := HLL.out; rw [HQ2.out]; omega, (fun h => by omega), HWZ6.out⟩, by simp [intOf]; omega⟩
            · obtain rfl : i = j := by omega
              obtain ⟨K, hK⟩ : ∃ K, leftL (headL l i) L keep.toNat = K := ⟨_, rfl⟩
              have HR1 := hid (crash_read (l := l) (i := i) (L := L) (k := keep.toNat))
              have HR2 := hid (crash_read2 (l := l) (i := i) (L := L) (k := keep.toNat) (k2 := again.toNat) HLL.out)
              have HX5 := hid (show (headL l i).length ≤ 5000 from Nat.le_trans (headL_le l i) HSM.out)
              rw [hK] at HR1 HR2
              unfold leftL at hK
              have HF := hid (show DskW w wr B d (fileL l i L) ⟨10000, false, -1⟩ from HD.out)
              generalize hfl : fileL l i L = cs at *
              clear hfl HD HL0
              generalize headL l i = x at *
              generalize hn : x.length = n at *
              have HNX := hid hn
              have HKN := hid (show K ≤ n by have := HLL.out; omega)
              have hlen : (x.take K).length = K := by rw [List.length_take]; have := HKN.out; omega
              have HLEN := hid hlen
              clear hn hlen hl4 hmod hmod2 hS20
              go_wp2_with fail
              refine (disk_crash _ _ _ _ _ keep HF.out.is).mono ?_
              rintro e w7 ⟨rfl, hd, hk⟩
              have hD : DskW w w7 _ d (cs.map (crashC keep.toNat)) ⟨10000, false, -1⟩ := HF.out.step hk hd
              have HD7 := hid hD
              have HOW7 := hid (HOW.out.keep EU8.ok hk (fun _ h => h.elim) HNB.out)
              clear hd hk hD HOW HF
              go_wp2_with fail
              refine (disk_read _ _ _ _ _ ⟨#[102]⟩ HD7.out.is (by decide)).mono ?_
              rintro e w8 ⟨A8, k8, he, hx, hk⟩
              rw [show (⟨#[102]⟩ : ByteArray).data.toList = [102] from rfl, HR1.out, HLEN.out] at he hx
              obtain ⟨c8, hc8⟩ : ∃ c8, (readR (cs.map (crashC keep.toNat)) [102]).1 = c8 := ⟨_, rfl⟩
              rw [hc8] at he
              subst he
              have HB8 := hid (hx.more (S' := fun q => ¬ B q) EU8.ok fun q _ h hb => by have := (HD7.out.low q hb).2; omega)
              have HD8 := hid (HD7.out.more hk)
              have HOW8 := hid (HOW7.out.ext EU8.ok hk)
              clear hx hk hc8 HD7 HOW7
              have HKK := hid hK
              by_cases hk0 : 0 < keep
              · have hk0X : decide (0 < keep) = true := by simpa using hk0
                have e2 : IntKind.i64.wrap ((n : Int) - (L : Int)) = (n : Int) - (L : Int) := by have := HX5.out; have := HLL.out; rw [IntKind.wrap_i64]; omega
                have e3 : (L : Int) + min keep ((n : Int) - (L : Int)) = (K : Int) := by have := HLL.out; omega
                have e4 : IntKind.i64.wrap ((L : Int) + min keep ((n : Int) - (L : Int))) = (K : Int) := by have := HX5.out; have := HLL.out; rw [IntKind.wrap_i64]; omega
                have ew : wrap64 (K : Int) = (K : Int) := by have := HX5.out; have := HKN.out; unfold wrap64; omega
                clear hK hk0
                go_wp2_with fail
                refine (disk_crash _ _ _ _ _ again HD8.out.is).mono ?_
                rintro e w9 ⟨rfl, hd, hk⟩
                have hD : DskW w w9 _ d ((cs.map (crashC keep.toNat)).map (crashC again.toNat)) ⟨10000, false, -1⟩ := HD8.out.step hk hd
                have HD9 := hid hD
                have HOW9 := hid (HOW8.out.keep EU8.ok hk (fun _ h => h.elim) HNB.out)
                have HB9 := hid (HB8.out.keep EU8.ok hk fun q h => h)
                clear hd hk hD HOW8 HB8 HD8
                go_wp2_with fail
                refine (disk_read _ _ _ _ _ ⟨#[102]⟩ HD9.out.is (by decide)).mono ?_
                rintro e w10 ⟨A10, k10, he, hx, hk⟩
                rw [show (⟨#[102]⟩ : ByteArray).data.toList = [102] from rfl, HR2.out, HLEN.out] at he hx
                obtain ⟨c10, hc10⟩ : ∃ c10, (readR ((cs.map (crashC keep.toNat)).map (crashC again.toNat)) [102]).1 = c10 := ⟨_, rfl⟩
                rw [hc10] at he
                subst he
                have HC10 := hid hx
                have HB10 := hid (HB9.out.ext EU8.ok hk)
                have hsl := ((HOW9.out.ext EU8.ok hk).sl EU8.ok)
                have HEZ := hid (HD9.out.ext.ext hk)
                have hfa := front_fact (P := Try.prog) EU8.ok ty_u8 hsl (b := (K : Int)) rfl (by have := HKN.out; have := HNX.out; omega)
                obtain ⟨hcut, hfr⟩ := hfa
                have HFR := hid hfr
                clear hx hk hc10 hsl hfr HOW9 HB9 HD9
                go_wp2_with fail
                refine wp_region_grow (specOf []) (fun w' => Ext w10 w') stable_nil (stableC_ext _) (by kernel_rfl) (by kernel_rfl) (Keep.drew (Keep.refl _ _)) ?_
                iterate 15
                  (try simp only [Act.put, List.setIfInBounds_toArray, List.set_cons_zero, List.set_cons_succ])
                  refine grow_run rfl rfl rfl ?_
                  apply Exists.intro
                  refine ⟨fun w' hC hK => ?_, ?_⟩
                  · have h1 := convert_bytesS (HB10.out.ext EU8.ok hC)
                    have h2 := convert_bytesS (HFR.out.ext EU8.ok hC)
                    have h3 := convert_bytesS (HC10.out.ext EU8.ok hC)
                    go_simp
                    rfl
                refine grow_nil fun wz hC _ => ?_
                have HEQ := hid (HEZ.out.ext hC)
                clear hC
                go_wp2
                go_ret
                exact ⟨by first | rfl | simp, HEQ.out⟩
              · have hk0X : decide (0 < keep) = false := by simpa using hk0
                have hKL : L = K := by omega
                have hKX : (L : Int) = (K : Int) := by omega
                clear hK hk0
                go_wp2_with fail
                refine (disk_crash _ _ _ _ _ again HD8.out.is).mono ?_
                rintro e w9 ⟨rfl, hd, hk⟩
                have hD : DskW w w9 _ d ((cs.map (crashC keep.toNat)).map (crashC again.toNat)) ⟨10000, false, -1⟩ := HD8.out.step hk hd
                have HD9 := hid hD
                have HOW9 := hid (HOW8.out.keep EU8.ok hk (fun _ h => h.elim) HNB.out)
                have HB9 := hid (HB8.out.keep EU8.ok hk fun q h => h)
                clear hd hk hD HOW8 HB8 HD8
                go_wp2_with fail
                refine (disk_read _ _ _ _ _ ⟨#[102]⟩ HD9.out.is (by decide)).mono ?_
                rintro e w10 ⟨A10, k10, he, hx, hk⟩
                rw [show (⟨#[102]⟩ : ByteArray).data.toList = [102] from rfl, HR2.out, HLEN.out] at he hx
                obtain ⟨c10, hc10⟩ : ∃ c10, (readR ((cs.map (crashC keep.toNat)).map (crashC again.toNat)) [102]).1 = c10 := ⟨_, rfl⟩
                rw [hc10] at he
                subst he
                have HC10 := hid hx
                have HB10 := hid (HB9.out.ext EU8.ok hk)
                have hsl := ((HOW9.out.ext EU8.ok hk).sl EU8.ok)
                have HEZ := hid (HD9.out.ext.ext hk)
                have hfa := front_fact (P := Try.prog) EU8.ok ty_u8 hsl (b := (K : Int)) rfl (by have := HKN.out; have := HNX.out; omega)
                obtain ⟨hcut, hfr⟩ := hfa
                have HFR := hid hfr
                clear hx hk hc10 hsl hfr HOW9 HB9 HD9
                go_wp2_with fail
                refine wp_region_grow (specOf []) (fun w' => Ext w10 w') stable_nil (stableC_ext _) (by kernel_rfl) (by kernel_rfl) (Keep.drew (Keep.refl _ _)) ?_
                iterate 15
                  (try simp only [Act.put, List.setIfInBounds_toArray, List.set_cons_zero, List.set_cons_succ])
                  refine grow_run rfl rfl rfl ?_
                  apply Exists.intro
                  refine ⟨fun w' hC hK => ?_, ?_⟩
                  · have h1 := convert_bytesS (HB10.out.ext EU8.ok hC)
                    have h2 := convert_bytesS (HFR.out.ext EU8.ok hC)
                    have h3 := convert_bytesS (HC10.out.ext EU8.ok hC)
                    go_simp
                    rfl
                refine grow_nil fun wz hC _ => ?_
                have HEQ := hid (HEZ.out.ext hC)
                clear hC
                go_wp2
                go_ret
                exact ⟨by first | rfl | simp, HEQ.out⟩
theorem lasts_lift {Q0 : Prop} (lv : Value) (l : List (List UInt8)) (z keep again : Int) (w : World) (h0 : Sl EBytes w (fun k => k < w.heap.size) lv l) (q0 : Q0 ∧ ∀ x ∈ l, x.length * Try.prog.bytesOf 5 ≤ reachBytes ∧ ∀ c ∈ x, True) (hz : (Lit.int .u8 z).wf = true) (hkp : (Lit.int .i64 keep).wf = true) (hag : (Lit.int .i64 again).wf = true) :
    Calls Try.prog 3 #[lv, .int .u8 z, .int .i64 keep, .int .i64 again] w fun e w' => e = .returned (.bool true) ∧ Below w.heap.size w w' :=
  (lasts_walk lv l z hz keep hkp again w h0 (fun x hx => by
    have h1 := (q0.2 x hx).1
    rw [show Try.prog.bytesOf 5 = 1 by kernel_rfl, Nat.mul_one] at h1
    exact Nat.le_trans h1 (by unfold reachBytes; decide))).mono fun e w' h => ⟨h.1, h.2.toBelow⟩
end Go.Proofs.Ytikophoopapngaa
