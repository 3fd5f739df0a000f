/- A file that is cut has its front: the walk. -/
import Derived.Test.YtikophoopapngaaDiskK
import Derived.Test.YtikophoopapngaaConvS
import Derived.Test.YtikophoopapngaaLawAid0
set_option linter.unusedSimpArgs false
set_option linter.unusedVariables false
namespace Go.Proofs.Ytikophoopapngaa
open Go.RowKit Go.Maps
set_option linter.unusedVariables false

/-- A disk made since the world w0, its blocks B in sight. -/
structure DskW (w0 w : World) (B : BS) (d : Nat) (cs : List DC) (s : DSt) : Prop where
  is : DiskIs w B d cs s
  low : ∀ k, B k → w0.heap.size ≤ k ∧ k < w.heap.size
  ext : Ext w0 w
section
variable {w0 w w' : World} {B : BS} {d : Nat} {cs cs' : List DC} {s s' : DSt}
theorem DskW.step (h : DskW w0 w B d cs s) (hk : Keep B w w') (hd : DiskIs w' B d cs' s') : DskW w0 w' B d cs' s' :=
  ⟨hd, fun k hb => ⟨(h.low k hb).1, Nat.lt_of_lt_of_le (h.low k hb).2 hk.size⟩, h.ext.trans hk fun k hk hb => by have := (h.low k hb).1; omega⟩
theorem DskW.grow (h : DskW w0 w B d cs s) (hk : Keep B w w') (hd : DiskIs w' (moreB B w w') d cs' s') : DskW w0 w' (moreB B w w') d cs' s' :=
  ⟨hd, fun k hb => by
    have := hk.size; have := h.ext.size
    rcases hb with hb | hb
    · have := h.low k hb; omega
    · omega, h.ext.trans hk fun k hk hb => by have := (h.low k hb).1; omega⟩
theorem DskW.more (h : DskW w0 w B d cs s) (he : Ext w w') : DskW w0 w' B d cs s := ⟨h.is.ext he, fun k hb => ⟨(h.low k hb).1, Nat.lt_of_lt_of_le (h.low k hb).2 he.size⟩, h.ext.ext he⟩
end
theorem disk_new_w (w0 w : World) (R : Nat) (hR : R ≤ 1048576) (h0 : Ext w0 w) : Calls Try.prog 10 #[.int .i64 (R : Int)] w fun e w' => ∃ d B, e = .returned (.pointer (some ⟨d, 0, none⟩)) ∧ DskW w0 w' B d [] ⟨R, false, -1⟩ ∧ (∀ k, B k → w.heap.size ≤ k) ∧ Ext w w' :=
  (disk_new w R).mono fun e w' h => by
    unfold NewIs at h
    rw [if_pos (by omega)] at h
    obtain ⟨d, h1, _, h2, h3⟩ := h
    exact ⟨d, fun k => w.heap.size ≤ k ∧ k < w'.heap.size, h1, ⟨by rw [Int.toNat_natCast] at h2; exact h2, fun k hk => ⟨Nat.le_trans h0.size hk.1, hk.2⟩, h0.ext h3⟩, fun k hk => hk.1, h3⟩

theorem one_app {R : Nat} {nm b : List UInt8} (h : b.length ≤ R) (hn : mayC 0 nm = true) : appR [] ⟨R, false, -1⟩ nm b = (0, [⟨nm, b, 0⟩]) := by
  rw [appR_new (cs := []) (by unfold fullC goesC; simp [usedC]; omega) rfl (by exact hn)]; rfl
theorem two_app {R l : Nat} {nm a b : List UInt8} (h : a.length + b.length ≤ R) : appR [⟨nm, a, l⟩] ⟨R, false, -1⟩ nm b = (0, [⟨nm, a ++ b, l⟩]) := by
  rw [appR_has (by unfold fullC goesC; simp [usedC]; omega) (by simp [hasC])]
  simp [updC, moreC]
theorem one_sync {R l : Nat} {nm a : List UInt8} : syncR [⟨nm, a, l⟩] ⟨R, false, -1⟩ nm = (0, [⟨nm, a, a.length⟩]) := by
  simp [syncR, goesC, hasC, updC, syncC]
theorem one_cut {R l n : Nat} {nm a : List UInt8} (h : n ≤ a.length) : cutR [⟨nm, a, l⟩] ⟨R, false, -1⟩ nm (n : Int) = (0, [⟨nm, a.take n, min l n⟩]) := by
  simp [cutR, goesC, findC, updC, cutC]
  omega
theorem one_cut_no {R l n : Nat} {nm a : List UInt8} (h : a.length < n) : cutR [⟨nm, a, l⟩] ⟨R, false, -1⟩ nm (n : Int) = (1, [⟨nm, a, l⟩]) := by
  simp [cutR, goesC, findC]
  omega
theorem one_read {l : Nat} {nm a : List UInt8} : readR [⟨nm, a, l⟩] nm = (0, a) := by simp [readR, findC]
theorem textOf_append (x y : List UInt8) : textOf x ++ textOf y = textOf (x ++ y) := by
  unfold textOf
  apply ByteArray.ext
  simp
theorem textOf_size (x : List UInt8) : (textOf x).size = x.length := by unfold textOf; simp [ByteArray.size]
theorem run_add_text (x y : List UInt8) (w : World) (h : x.length + y.length ≤ 9223372036854775807) : (Op.stringOp .add (textOf x) (textOf y)).run Try.prog w = .ok (.string (textOf (x ++ y))) w := by
  rw [run_string_add_sum w _ _ (by rw [textOf_size, textOf_size]; exact h), textOf_append]
theorem disk_used' (w : World) (B : BS) (d : Nat) (cs : List DC) (s : DSt) (h : DiskIs w B d cs s) :
    Calls Try.prog 16 #[.pointer (some ⟨d, 0, none⟩)] w fun e w' => e = .returned (.int .i64 (usedC cs : Int)) ∧ Ext w w' := by
  obtain ⟨h0, m, fs, hd, rfl⟩ := h
  exact disk_used w B d m fs s hd (Nat.le_trans h0.used h0.room)
theorem one_crash0 {l : Nat} {nm x : List UInt8} : [DC.mk nm x l].map (crashC 0) = [⟨nm, x.take l, l⟩] := by simp [crashC, keptC]
theorem one_crash {l k : Nat} {nm a : List UInt8} (h : l ≤ a.length) : [DC.mk nm a l].map (crashC k) = [⟨nm, a.take (l + min k (a.length - l)), l + min k (a.length - l)⟩] := rfl

set_option maxRecDepth 20000 in
set_option maxHeartbeats 12800000 in
theorem cuts_walk (av : Value) (a : List UInt8) (bv : Value) (b : List UInt8) (n : Int) (hn : (Lit.int .i64 n).wf = true) (sync : Bool) (w : World) (ha : BytesS w (fun k => k < w.heap.size) av a) (hb : BytesS w (fun k => k < w.heap.size) bv b) :
    Calls Try.prog 5 #[av, bv, .int .i64 n, .bool sync] w fun e w' => e = .returned (.bool true) ∧ Ext w w' := by
  obtain ⟨A1, c1, rfl, hc1, hm1⟩ := ha.shape
  obtain ⟨A2, c2, rfl, hc2, hm2⟩ := hb.shape
  have HA := hid ha
  have HB := hid hb
  have HEND := hid (show ∀ wx, Ext w wx → Calls Try.prog 9 #[] wx fun e w' => e = .returned (.bool true) ∧ Ext w w' from fun wx h => (known13_ok wx).mono fun e w' h2 => ⟨h2.1, h.ext h2.2⟩)
  clear ha hb
  have hpe := eql_pdsk
  by_cases h1 : 1000 < a.length
  · have h1X : decide (1000 < (a.length : Int)) = true := by simp; omega
    go_enter Try.func5, Try.ntmps5
    go_wp2_with fail
    refine (HEND.out _ (Keep.refl _ _)).mono ?_
    rintro e w2 ⟨rfl, hz⟩
    have HZ := hid hz
    clear hz
    go_wp2
    go_ret
    exact ⟨rfl, HZ.out⟩
  · have h1X : decide (1000 < (a.length : Int)) = false := by simp; omega
    by_cases h2 : 1000 < b.length
    · have h2X : decide (1000 < (b.length : Int)) = true := by simp; omega
      go_enter Try.func5, Try.ntmps5
      go_wp2_with fail
      refine (HEND.out _ (Keep.refl _ _)).mono ?_
      rintro e w2 ⟨rfl, hz⟩
      have HZ := hid hz
      clear hz
      go_wp2
      go_ret
      exact ⟨rfl, HZ.out⟩
    · have h2X : decide (1000 < (b.length : Int)) = false := by simp; omega
      have HN := hid (show a.length ≤ 1000 ∧ b.length ≤ 1000 by omega)
      go_enter Try.func5, Try.ntmps5
      go_wp2_with fail
      refine (known13_ok _).mono ?_
      rintro e w1 ⟨rfl, hE⟩
      have HE := hid hE
      clear hE HEND h1X h2X h1 h2
      go_wp2_with fail
      refine (disk_new_w w w1 5000 (by decide) HE.out).mono ?_
      rintro e w2 ⟨d, B, rfl, hD, _, _⟩
      have HD := hid hD
      clear hD
      go_wp2_with fail
      refine (disk_append _ _ _ _ _ ⟨#[102]⟩ _ a _ HD.out.is (HA.out.ext EU8.ok HD.out.ext) (by decide)).mono ?_
      rintro e w3 ⟨he, hd, hk⟩
      rw [one_app (by have := HN.out; omega) rfl] at he hd
      obtain rfl : e = .returned (.int .u16 0) := he
      have hD : DskW w w3 _ d [⟨[102], a, 0⟩] ⟨5000, false, -1⟩ := HD.out.grow hk hd
      clear hd hk
      generalize moreB B w2 w3 = B3 at *
      replace HD := hid hD
      clear hD
      go_wp2_with fail
      refine (disk_sync _ _ _ _ _ ⟨#[102]⟩ HD.out.is (by decide)).mono ?_
      rintro e w4 ⟨he, hd, hk⟩
      rw [show (⟨#[102]⟩ : ByteArray).data.toList = [102] from rfl, one_sync] at he hd
      obtain rfl : e = .returned (.int .u16 0) := he
      have hD : DskW w w4 _ d [⟨[102], a, a.length⟩] ⟨5000, false, -1⟩ := HD.out.step hk hd
      replace HD := hid hD
      clear hd hk hD
      obtain ⟨i0, hmax, hi0⟩ := run_max0 n hn
      obtain ⟨K, hK⟩ : ∃ K, i0 % (a.length + 1) = K := ⟨_, rfl⟩
      have hKl : K ≤ a.length := by have : i0 % (a.length + 1) < a.length + 1 := Nat.mod_lt i0 (Nat.succ_pos a.length); omega
      have hmod : (i0 : Int) % ((a.length : Int) + 1) = (K : Int) := by rw [← hK]; rfl
      have hw64 : wrap64 ((a.length : Int) + 1) = (a.length : Int) + 1 := by have := HN.out.1; unfold wrap64; omega
      have hnz : ¬ (a.length : Int) + 1 = 0 := by omega
      have HK := hid hKl
      have HNL := hid hn
      clear hK hn
      go_wp2_with fail
      refine (disk_cut _ _ _ _ _ ⟨#[102]⟩ _ HD.out.is (by decide)).mono ?_
      rintro e w5 ⟨he, hd, hk⟩
      rw [show (⟨#[102]⟩ : ByteArray).data.toList = [102] from rfl, one_cut HK.out] at he hd
      obtain rfl : e = .returned (.int .u16 0) := he
      have hmn : min a.length K = K := by omega
      rw [hmn] at hd
      have hD : DskW w w5 _ d [⟨[102], a.take K, K⟩] ⟨5000, false, -1⟩ := HD.out.step hk hd
      replace HD := hid hD
      clear hd hk hD hmn hw64 hnz hmax hKl
      go_wp2_with fail
      refine (disk_append _ _ _ _ _ ⟨#[102]⟩ _ b _ HD.out.is (HB.out.ext EU8.ok HD.out.ext) (by decide)).mono ?_
      rintro e w6 ⟨he, hd, hk⟩
      rw [show (⟨#[102]⟩ : ByteArray).data.toList = [102] from rfl, two_app (by have := HN.out; have := HK.out; rw [List.length_take]; omega)] at he hd
      obtain rfl : e = .returned (.int .u16 0) := he
      have hD : DskW w w6 _ d [⟨[102], a.take K ++ b, K⟩] ⟨5000, false, -1⟩ := HD.out.grow hk hd
      clear hd hk
      generalize moreB B3 w5 w6 = B6 at *
      replace HD := hid hD
      clear hD
      go_wp2_with fail
      refine (disk_read _ _ _ _ _ ⟨#[102]⟩ HD.out.is (by decide)).mono ?_
      rintro e w7 ⟨A7, k7, he, hx, hk⟩
      rw [show (⟨#[102]⟩ : ByteArray).data.toList = [102] from rfl, one_read] at he hx
      obtain ⟨n7, hn7⟩ : ∃ n7, (a.take K ++ b).length = n7 := ⟨_, rfl⟩
      replace he : e = .returned (.tuple #[.slice A7 (a.take K ++ b).length k7, .int .u16 0]) := he
      replace hx : BytesS w7 (fun q => w6.heap.size ≤ q) (.slice A7 (a.take K ++ b).length k7) (a.take K ++ b) := hx
      rw [hn7] at he hx
      subst he
      have HX := hid (hx.more (S' := fun q => ¬ B6 q) EU8.ok fun q _ h hb => by have := (HD.out.low q hb).2; omega)
      replace HD := hid (HD.out.more hk)
      have HN7 := hid hn7
      clear hx hk hn7
      cases sync with
      | true =>
        go_wp2_with fail
        refine (disk_sync _ _ _ _ _ ⟨#[102]⟩ HD.out.is (by decide)).mono ?_
        rintro e w8 ⟨he, hd, hk⟩
        rw [show (⟨#[102]⟩ : ByteArray).data.toList = [102] from rfl, one_sync] at he hd
        obtain rfl : e = .returned (.int .u16 0) := he
        have hD : DskW w w8 _ d [⟨[102], a.take K ++ b, (a.take K ++ b).length⟩] ⟨5000, false, -1⟩ := HD.out.step hk hd
        rw [HN7.out] at hD
        replace HD := hid hD
        replace HX := hid (HX.out.keep EU8.ok hk fun q h => h)
        clear hd hk hD
        go_wp2_with fail
        refine (disk_crash _ _ _ _ _ 0 HD.out.is).mono ?_
        rintro e w9 ⟨rfl, hd, hk⟩
        have hcr : [DC.mk [102] (a.take K ++ b) n7].map (crashC (0 : Int).toNat) = [⟨[102], (a.take K ++ b), n7⟩] := by
          have := HK.out
          have h1 : (a.take K).length = K := by rw [List.length_take]; omega
          rw [show (0 : Int).toNat = 0 from rfl, one_crash0]
          first | rw [← HN7.out, List.take_length] | rw [List.take_left' h1]
        rw [hcr] at hd
        have hD : DskW w w9 _ d [⟨[102], (a.take K ++ b), n7⟩] ⟨5000, false, -1⟩ := HD.out.step hk hd
        replace HD := hid hD
        replace HX := hid (HX.out.keep EU8.ok hk fun q h => h)
        clear hd hk hD hcr
        go_wp2_with fail
        refine (disk_read _ _ _ _ _ ⟨#[102]⟩ HD.out.is (by decide)).mono ?_
        rintro e w10 ⟨A10, k10, he, hy, hk⟩
        rw [show (⟨#[102]⟩ : ByteArray).data.toList = [102] from rfl, one_read] at he hy
        have HLE := hid (show ((a.take K ++ b)).length = n7 from by have := HK.out; first | exact HN7.out | (rw [List.length_take]; omega))
        replace he : e = .returned (.tuple #[.slice A10 ((a.take K ++ b)).length k10, .int .u16 0]) := he
        replace hy : BytesS w10 (fun q => w9.heap.size ≤ q) (.slice A10 ((a.take K ++ b)).length k10) ((a.take K ++ b)) := hy
        obtain ⟨n10, hn10⟩ : ∃ n10, ((a.take K ++ b)).length = n10 := ⟨_, rfl⟩
        rw [hn10] at he hy
        subst he
        have HY := hid (hy.more (S' := fun q => ¬ B6 q) EU8.ok fun q _ h hb => by have := (HD.out.low q hb).2; omega)
        replace HD := hid (HD.out.more hk)
        replace HX := hid (HX.out.ext EU8.ok hk)
        have HN10 := hid hn10
        clear hy hk hn10
        have hfa := front_fact (P := Try.prog) EU8.ok ty_u8 (HA.out.ext EU8.ok HD.out.ext) (b := (K : Int)) rfl HK.out
        have hcf := convert_bytesS hfa.2
        have hcb := convert_bytesS (HB.out.ext EU8.ok HD.out.ext)
        obtain ⟨hsl, hfr⟩ := hfa
        have hta : textOf (a.take K) ++ textOf b = textOf (a.take K ++ b) := textOf_append _ _
        have hadd : ∀ w' : World, (Op.stringOp .add (textOf (a.take K)) (textOf b)).run Try.prog w' = .ok (.string (textOf (a.take K ++ b))) w' := fun w' => run_add_text _ _ w' (by have := HN.out; rw [List.length_take]; omega)
        have HFR := hid hfr
        clear hfr
        go_wp2_with fail
        have hsz : (textOf ((a.take K ++ b))).size = n10 := by rw [textOf_size, HN10.out]
        have hn10 : n10 ≤ 2000 := by have := HN.out; rw [← HN10.out]; simp only [List.length_append, List.length_take]; omega
        have hw1 : IntKind.i64.wrap ((n10 : Int) + 1) = (n10 : Int) + 1 := by rw [IntKind.wrap_i64]; omega
        clear hn10
        have hlow : ∀ k, k < w.heap.size → ¬ B6 k := fun k h hb => by have := (HD.out.low k hb).1; omega
        have HLOW := hid hlow
        clear hlow hcf hcb hmod
        refine M.wp_region_grow (M.specOf [(26, fun v _ => v = .int .i64 (n10 : Int)), (36, fun v _ => v = .int .u16 1)]) (fun w' => Keep B6 w10 w' ∧ DiskIs w' B6 d [⟨[102], (a.take K ++ b), n7⟩] ⟨5000, false, -1⟩)
          (fun _ u u' => Keep B6 u u' ∧ (DiskIs u B6 d [⟨[102], (a.take K ++ b), n7⟩] ⟨5000, false, -1⟩ → DiskIs u' B6 d [⟨[102], (a.take K ++ b), n7⟩] ⟨5000, false, -1⟩))
          (M.stable_cons (fun j hj v w w' h he => h) (M.stable_cons (fun j hj v w w' h he => h) M.stable_nil)) (fun i u u' hc hr => ⟨hc.1.trans hr.1 fun k _ h => h, hr.2 hc.2⟩) (by kernel_rfl) (by kernel_rfl) ⟨Keep.drew (Keep.refl _ _), HD.out.is.ext (Keep.refl _ _).drew⟩ ?_
        iterate 8
          (try simp only [Act.put, List.setIfInBounds_toArray, List.set_cons_zero, List.set_cons_succ])
          refine M.grow_run rfl rfl rfl ?_
          apply Exists.intro
          refine ⟨fun w' hC hK => ?_, ?_⟩
          · go_simp
            rfl
        iterate 1
          (try simp only [Act.put, List.setIfInBounds_toArray, List.set_cons_zero, List.set_cons_succ])
          refine M.grow_run rfl rfl rfl ?_
          apply Exists.intro
          refine ⟨fun w' hC hK => ?_, ?_⟩
          · have h1 := convert_bytesS (HX.out.keep EU8.ok hC.1 fun q h => h)
            go_simp
            rfl
        iterate 3
          (try simp only [Act.put, List.setIfInBounds_toArray, List.set_cons_zero, List.set_cons_succ])
          refine M.grow_run rfl rfl rfl ?_
          apply Exists.intro
          refine ⟨fun w' hC hK => ?_, ?_⟩
          · go_simp
            rfl
        iterate 1
          (try simp only [Act.put, List.setIfInBounds_toArray, List.set_cons_zero, List.set_cons_succ])
          refine M.grow_run rfl rfl rfl ?_
          apply Exists.intro
          refine ⟨fun w' hC hK => ?_, ?_⟩
          · have h1 := convert_bytesS (HFR.out.keep EU8.ok hC.1 HLOW.out)
            go_simp
            rfl
        iterate 1
          (try simp only [Act.put, List.setIfInBounds_toArray, List.set_cons_zero, List.set_cons_succ])
          refine M.grow_run rfl rfl rfl ?_
          apply Exists.intro
          refine ⟨fun w' hC hK => ?_, ?_⟩
          · go_simp
            rfl
        iterate 1
          (try simp only [Act.put, List.setIfInBounds_toArray, List.set_cons_zero, List.set_cons_succ])
          refine M.grow_run rfl rfl rfl ?_
          apply Exists.intro
          refine ⟨fun w' hC hK => ?_, ?_⟩
          · have h1 := convert_bytesS ((HB.out.ext EU8.ok HD.out.ext).keep EU8.ok hC.1 HLOW.out)
            go_simp
            rfl
        iterate 5
          (try simp only [Act.put, List.setIfInBounds_toArray, List.set_cons_zero, List.set_cons_succ])
          refine M.grow_run rfl rfl rfl ?_
          apply Exists.intro
          refine ⟨fun w' hC hK => ?_, ?_⟩
          · go_simp
            rfl
        iterate 1
          (try simp only [Act.put, List.setIfInBounds_toArray, List.set_cons_zero, List.set_cons_succ])
          refine M.grow_run rfl rfl rfl ?_
          apply Exists.intro
          refine ⟨fun w' hC hK => ?_, ?_⟩
          · have h1 := convert_bytesS (HY.out.keep EU8.ok hC.1 fun q h => h)
            go_simp
            rfl
        iterate 5
          (try simp only [Act.put, List.setIfInBounds_toArray, List.set_cons_zero, List.set_cons_succ])
          refine M.grow_run rfl rfl rfl ?_
          apply Exists.intro
          refine ⟨fun w' hC hK => ?_, ?_⟩
          · go_simp
            rfl
        (try simp only [Act.put, List.setIfInBounds_toArray, List.set_cons_zero, List.set_cons_succ])
        refine M.grow_eff rfl rfl rfl (fun w' hC hK => ?_) (fun v26 hv26 => ?_)
        · unfold M.growAt
          go_simp
          refine M.grow_call ((disk_used' _ _ _ _ _ hC.2).mono ?_)
          rintro e w'' ⟨rfl, h1⟩
          exact ⟨_, rfl, ⟨h1.mono fun k _ h => h.elim, hC.2.ext h1⟩, by rw [show usedC [DC.mk [102] ((a.take K ++ b)) n7] = ((a.take K ++ b)).length + 0 from rfl, Nat.add_zero, HN10.out]⟩
        obtain ⟨_, _, rfl⟩ := hv26.head
        iterate 9
          (try simp only [Act.put, List.setIfInBounds_toArray, List.set_cons_zero, List.set_cons_succ])
          refine M.grow_run rfl rfl rfl ?_
          apply Exists.intro
          refine ⟨fun w' hC hK => ?_, ?_⟩
          · go_simp
            rfl
        (try simp only [Act.put, List.setIfInBounds_toArray, List.set_cons_zero, List.set_cons_succ])
        refine M.grow_eff rfl rfl rfl (fun w' hC hK => ?_) (fun v36 hv36 => ?_)
        · unfold M.growAt
          go_simp
          refine M.grow_call ((disk_cut _ _ _ _ _ ⟨#[102]⟩ ((n10 : Int) + 1) hC.2 (by decide)).mono ?_)
          rintro e w'' ⟨he, hd, hk⟩
          rw [show (⟨#[102]⟩ : ByteArray).data.toList = [102] from rfl, show ((n10 : Int) + 1) = ((n10 + 1 : Nat) : Int) from rfl, one_cut_no (by rw [HN10.out]; omega)] at he hd
          exact ⟨_, he, ⟨hk, hd⟩, rfl⟩
        obtain ⟨_, _, rfl⟩ := hv36.head
        iterate 3
          (try simp only [Act.put, List.setIfInBounds_toArray, List.set_cons_zero, List.set_cons_succ])
          refine M.grow_run rfl rfl rfl ?_
          apply Exists.intro
          refine ⟨fun w' hC hK => ?_, ?_⟩
          · go_simp
            rfl
        refine M.grow_nil fun wz hC _ => ?_
        have HEZ := hid (HD.out.step hC.1 hC.2).ext
        clear hC
        go_wp2
        go_ret
        exact ⟨by first | rfl | simp, HEZ.out⟩
      | false =>
        go_wp2_with fail
        refine (disk_crash _ _ _ _ _ 0 HD.out.is).mono ?_
        rintro e w9 ⟨rfl, hd, hk⟩
        have hcr : [DC.mk [102] (a.take K ++ b) K].map (crashC (0 : Int).toNat) = [⟨[102], a.take K, K⟩] := by
          have := HK.out
          have h1 : (a.take K).length = K := by rw [List.length_take]; omega
          rw [show (0 : Int).toNat = 0 from rfl, one_crash0]
          first | rw [← HN7.out, List.take_length] | rw [List.take_left' h1]
        rw [hcr] at hd
        have hD : DskW w w9 _ d [⟨[102], a.take K, K⟩] ⟨5000, false, -1⟩ := HD.out.step hk hd
        replace HD := hid hD
        replace HX := hid (HX.out.keep EU8.ok hk fun q h => h)
        clear hd hk hD hcr
        go_wp2_with fail
        refine (disk_read _ _ _ _ _ ⟨#[102]⟩ HD.out.is (by decide)).mono ?_
        rintro e w10 ⟨A10, k10, he, hy, hk⟩
        rw [show (⟨#[102]⟩ : ByteArray).data.toList = [102] from rfl, one_read] at he hy
        have HLE := hid (show (a.take K).length = K from by have := HK.out; first | exact HN7.out | (rw [List.length_take]; omega))
        replace he : e = .returned (.tuple #[.slice A10 (a.take K).length k10, .int .u16 0]) := he
        replace hy : BytesS w10 (fun q => w9.heap.size ≤ q) (.slice A10 (a.take K).length k10) (a.take K) := hy
        obtain ⟨n10, hn10⟩ : ∃ n10, (a.take K).length = n10 := ⟨_, rfl⟩
        rw [hn10] at he hy
        subst he
        have HY := hid (hy.more (S' := fun q => ¬ B6 q) EU8.ok fun q _ h hb => by have := (HD.out.low q hb).2; omega)
        replace HD := hid (HD.out.more hk)
        replace HX := hid (HX.out.ext EU8.ok hk)
        have HN10 := hid hn10
        clear hy hk hn10
        have hfa := front_fact (P := Try.prog) EU8.ok ty_u8 (HA.out.ext EU8.ok HD.out.ext) (b := (K : Int)) rfl HK.out
        have hcf := convert_bytesS hfa.2
        have hcb := convert_bytesS (HB.out.ext EU8.ok HD.out.ext)
        obtain ⟨hsl, hfr⟩ := hfa
        have hta : textOf (a.take K) ++ textOf b = textOf (a.take K ++ b) := textOf_append _ _
        have hadd : ∀ w' : World, (Op.stringOp .add (textOf (a.take K)) (textOf b)).run Try.prog w' = .ok (.string (textOf (a.take K ++ b))) w' := fun w' => run_add_text _ _ w' (by have := HN.out; rw [List.length_take]; omega)
        have HFR := hid hfr
        clear hfr
        go_wp2_with fail
        have hsz : (textOf (a.take K)).size = n10 := by rw [textOf_size, HN10.out]
        have hn10 : n10 ≤ 2000 := by have := HN.out; rw [← HN10.out]; simp only [List.length_append, List.length_take]; omega
        have hw1 : IntKind.i64.wrap ((n10 : Int) + 1) = (n10 : Int) + 1 := by rw [IntKind.wrap_i64]; omega
        clear hn10
        have hlow : ∀ k, k < w.heap.size → ¬ B6 k := fun k h hb => by have := (HD.out.low k hb).1; omega
        have HLOW := hid hlow
        clear hlow hcf hcb hmod
        refine M.wp_region_grow (M.specOf [(26, fun v _ => v = .int .i64 (n10 : Int)), (36, fun v _ => v = .int .u16 1)]) (fun w' => Keep B6 w10 w' ∧ DiskIs w' B6 d [⟨[102], a.take K, K⟩] ⟨5000, false, -1⟩)
          (fun _ u u' => Keep B6 u u' ∧ (DiskIs u B6 d [⟨[102], a.take K, K⟩] ⟨5000, false, -1⟩ → DiskIs u' B6 d [⟨[102], a.take K, K⟩] ⟨5000, false, -1⟩))
          (M.stable_cons (fun j hj v w w' h he => h) (M.stable_cons (fun j hj v w w' h he => h) M.stable_nil)) (fun i u u' hc hr => ⟨hc.1.trans hr.1 fun k _ h => h, hr.2 hc.2⟩) (by kernel_rfl) (by kernel_rfl) ⟨Keep.drew (Keep.refl _ _), HD.out.is.ext (Keep.refl _ _).drew⟩ ?_
        iterate 8
          (try simp only [Act.put, List.setIfInBounds_toArray, List.set_cons_zero, List.set_cons_succ])
          refine M.grow_run rfl rfl rfl ?_
          apply Exists.intro
          refine ⟨fun w' hC hK => ?_, ?_⟩
          · go_simp
            rfl
        iterate 1
          (try simp only [Act.put, List.setIfInBounds_toArray, List.set_cons_zero, List.set_cons_succ])
          refine M.grow_run rfl rfl rfl ?_
          apply Exists.intro
          refine ⟨fun w' hC hK => ?_, ?_⟩
          · have h1 := convert_bytesS (HX.out.keep EU8.ok hC.1 fun q h => h)
            go_simp
            rfl
        iterate 3
          (try simp only [Act.put, List.setIfInBounds_toArray, List.set_cons_zero, List.set_cons_succ])
          refine M.grow_run rfl rfl rfl ?_
          apply Exists.intro
          refine ⟨fun w' hC hK => ?_, ?_⟩
          · go_simp
            rfl
        iterate 1
          (try simp only [Act.put, List.setIfInBounds_toArray, List.set_cons_zero, List.set_cons_succ])
          refine M.grow_run rfl rfl rfl ?_
          apply Exists.intro
          refine ⟨fun w' hC hK => ?_, ?_⟩
          · have h1 := convert_bytesS (HFR.out.keep EU8.ok hC.1 HLOW.out)
            go_simp
            rfl
        iterate 1
          (try simp only [Act.put, List.setIfInBounds_toArray, List.set_cons_zero, List.set_cons_succ])
          refine M.grow_run rfl rfl rfl ?_
          apply Exists.intro
          refine ⟨fun w' hC hK => ?_, ?_⟩
          · go_simp
            rfl
        iterate 1
          (try simp only [Act.put, List.setIfInBounds_toArray, List.set_cons_zero, List.set_cons_succ])
          refine M.grow_run rfl rfl rfl ?_
          apply Exists.intro
          refine ⟨fun w' hC hK => ?_, ?_⟩
          · have h1 := convert_bytesS ((HB.out.ext EU8.ok HD.out.ext).keep EU8.ok hC.1 HLOW.out)
            go_simp
            rfl
        iterate 5
          (try simp only [Act.put, List.setIfInBounds_toArray, List.set_cons_zero, List.set_cons_succ])
          refine M.grow_run rfl rfl rfl ?_
          apply Exists.intro
          refine ⟨fun w' hC hK => ?_, ?_⟩
          · go_simp
            rfl
        iterate 1
          (try simp only [Act.put, List.setIfInBounds_toArray, List.set_cons_zero, List.set_cons_succ])
          refine M.grow_run rfl rfl rfl ?_
          apply Exists.intro
          refine ⟨fun w' hC hK => ?_, ?_⟩
          · have h1 := convert_bytesS (HY.out.keep EU8.ok hC.1 fun q h => h)
            go_simp
            rfl
        iterate 5
          (try simp only [Act.put, List.setIfInBounds_toArray, List.set_cons_zero, List.set_cons_succ])
          refine M.grow_run rfl rfl rfl ?_
          apply Exists.intro
          refine ⟨fun w' hC hK => ?_, ?_⟩
          · go_simp
            rfl
        (try simp only [Act.put, List.setIfInBounds_toArray, List.set_cons_zero, List.set_cons_succ])
        refine M.grow_eff rfl rfl rfl (fun w' hC hK => ?_) (fun v26 hv26 => ?_)
        · unfold M.growAt
          go_simp
          refine M.grow_call ((disk_used' _ _ _ _ _ hC.2).mono ?_)
          rintro e w'' ⟨rfl, h1⟩
          exact ⟨_, rfl, ⟨h1.mono fun k _ h => h.elim, hC.2.ext h1⟩, by rw [show usedC [DC.mk [102] (a.take K) K] = (a.take K).length + 0 from rfl, Nat.add_zero, HN10.out]⟩
        obtain ⟨_, _, rfl⟩ := hv26.head
        iterate 9
          (try simp only [Act.put, List.setIfInBounds_toArray, List.set_cons_zero, List.set_cons_succ])
          refine M.grow_run rfl rfl rfl ?_
          apply Exists.intro
          refine ⟨fun w' hC hK => ?_, ?_⟩
          · go_simp
            rfl
        (try simp only [Act.put, List.setIfInBounds_toArray, List.set_cons_zero, List.set_cons_succ])
        refine M.grow_eff rfl rfl rfl (fun w' hC hK => ?_) (fun v36 hv36 => ?_)
        · unfold M.growAt
          go_simp
          refine M.grow_call ((disk_cut _ _ _ _ _ ⟨#[102]⟩ ((n10 : Int) + 1) hC.2 (by decide)).mono ?_)
          rintro e w'' ⟨he, hd, hk⟩
          rw [show (⟨#[102]⟩ : ByteArray).data.toList = [102] from rfl, show ((n10 : Int) + 1) = ((n10 + 1 : Nat) : Int) from rfl, one_cut_no (by rw [HN10.out]; omega)] at he hd
          exact ⟨_, he, ⟨hk, hd⟩, rfl⟩
        obtain ⟨_, _, rfl⟩ := hv36.head
        iterate 3
          (try simp only [Act.put, List.setIfInBounds_toArray, List.set_cons_zero, List.set_cons_succ])
          refine M.grow_run rfl rfl rfl ?_
          apply Exists.intro
          refine ⟨fun w' hC hK => ?_, ?_⟩
          · go_simp
            rfl
        refine M.grow_nil fun wz hC _ => ?_
        have HEZ := hid (HD.out.step hC.1 hC.2).ext
        clear hC
        go_wp2
        go_ret
        exact ⟨by first | rfl | simp, HEZ.out⟩
theorem cuts_lift {Q0 Q1 : Prop} (av : Value) (a : List UInt8) (bv : Value) (b : List UInt8) (n : Int) (sync : Bool) (w : World) (h0 : BytesS w (fun k => k < w.heap.size) av a) (q0 : Q0) (h1 : BytesS w (fun k => k < w.heap.size) bv b) (q1 : Q1) (hn : (Lit.int .i64 n).wf = true) :
    Calls Try.prog 5 #[av, bv, .int .i64 n, .bool sync] w fun e w' => e = .returned (.bool true) ∧ Below w.heap.size w w' :=
  (cuts_walk av a bv b n hn sync w h0 h1).mono fun e w' h => ⟨h.1, h.2.toBelow⟩
end Go.Proofs.Ytikophoopapngaa
