/- The law's example of chapter 13. -/
import Derived.Test.YtikophoopapngaaDiskJ
set_option linter.unusedSimpArgs false
set_option linter.unusedVariables false
namespace Go.Proofs.Ytikophoopapngaa
open Go.RowKit Go.Maps
set_option linter.unusedVariables false

/-- The disk's blocks: those behind the world of the start. -/
def Past (w : World) : BS := fun k => w.heap.size ≤ k
theorem DiskIs.past {w w1 w2 : World} {d : Nat} {cs : List DC} {s : DSt} (h : DiskIs w2 (moreB (Past w) w1 w2) d cs s) (hw : Ext w w1) : DiskIs w2 (Past w) d cs s :=
  h.more fun k _ h => by
    rcases h with h | h
    · exact h
    · exact Nat.le_trans hw.size h.1
theorem Keep.past {w w1 w2 : World} (h : Ext w w1) (hk : Keep (Past w) w1 w2) : Ext w w2 := h.trans hk fun k hk h => by unfold Past at h; omega
/-- 'New', for a room that there is. -/
theorem disk_new_yes (w0 w : World) (R : Nat) (hR : R ≤ 1048576) (h0 : Ext w0 w) : Calls Try.prog 10 #[.int .i64 (R : Int)] w fun e w' => ∃ d, e = .returned (.pointer (some ⟨d, 0, none⟩)) ∧ DiskIs w' (Past w0) d [] ⟨R, false, -1⟩ ∧ Ext w0 w' :=
  (disk_new w R).mono fun e w' h => by
    unfold NewIs at h
    rw [if_pos (by omega)] at h
    obtain ⟨d, h1, _, h2, h3⟩ := h
    exact ⟨d, h1, by rw [Int.toNat_natCast] at h2; exact h2.more fun k _ hk => Nat.le_trans h0.size hk.1, h0.ext h3⟩
theorem disk_new_no (w : World) : Calls Try.prog 10 #[.int .i64 (-1)] w fun e w' => e = .returned (.pointer none) ∧ Ext w w' :=
  (disk_new w (-1)).mono fun e w' h => by
    unfold NewIs at h
    rw [if_neg (by omega)] at h
    exact h

set_option maxRecDepth 20000 in
set_option maxHeartbeats 6400000 in
theorem known13_ok (w : World) : Calls Try.prog 9 #[] w fun e w' => e = .returned (.bool true) ∧ Ext w w' := by
  have hpe := eql_pdsk
  go_enter Try.func9, Try.ntmps9
  go_wp2_with fail
  refine (disk_new_yes w w 100 (by decide) (Keep.refl _ _)).mono ?_
  rintro e w1 ⟨d, rfl, hd, hE⟩
  have HD := hid hd
  have HE := hid hE
  clear hd hE
  go_wp2_with fail
  have hA : Ext w1 (w1.alloc (.cells #[.int .u8 1, .int .u8 2] 5)) := (Keep.refl _ _).alloc _
  refine (disk_append _ _ _ _ _ ⟨#[97]⟩ _ [1, 2] _ (HD.out.ext hA) (bytes_new (w := w1) (t := 5) (f := (0, 0)) [1, 2] (by simp [maxLen])) (by decide)).mono ?_
  rintro e w2 ⟨he, hd, hk⟩
  obtain rfl : e = .returned (.int .u16 0) := he
  have hd : DiskIs w2 _ d [⟨[97], [1, 2], 0⟩] ⟨100, false, -1⟩ := hd
  have hE2 := HE.out.ext hA
  replace HD := hid (hd.past hE2)
  replace HE := hid (Keep.past hE2 hk)
  clear hd hk hA hE2
  go_wp2_with fail
  refine (disk_sync _ _ _ _ _ ⟨#[97]⟩ HD.out (by decide)).mono ?_
  rintro e w3 ⟨he, hd, hk⟩
  obtain rfl : e = .returned (.int .u16 0) := he
  have hd : DiskIs w3 _ d [⟨[97], [1, 2], 2⟩] ⟨100, false, -1⟩ := hd
  replace HD := hid hd
  replace HE := hid (Keep.past HE.out hk)
  clear hd hk
  go_wp2_with fail
  have hA : Ext w3 (w3.alloc (.cells #[.int .u8 3, .int .u8 4, .int .u8 5] 5)) := (Keep.refl _ _).alloc _
  refine (disk_append _ _ _ _ _ ⟨#[97]⟩ _ [3, 4, 5] _ (HD.out.ext hA) (bytes_new (w := w3) (t := 5) (f := (0, 0)) [3, 4, 5] (by simp [maxLen])) (by decide)).mono ?_
  rintro e w4 ⟨he, hd, hk⟩
  obtain rfl : e = .returned (.int .u16 0) := he
  have hd : DiskIs w4 _ d [⟨[97], [1, 2, 3, 4, 5], 2⟩] ⟨100, false, -1⟩ := hd
  have hE2 := HE.out.ext hA
  replace HD := hid (hd.past hE2)
  replace HE := hid (Keep.past hE2 hk)
  clear hd hk hA hE2
  go_wp2_with fail
  refine (disk_crash _ _ _ _ _ 1 HD.out).mono ?_
  rintro e w5 ⟨rfl, hd, hk⟩
  have hd : DiskIs w5 _ d [⟨[97], [1, 2, 3], 3⟩] ⟨100, false, -1⟩ := hd
  replace HD := hid hd
  replace HE := hid (Keep.past HE.out hk)
  clear hd hk
  go_wp2_with fail
  refine (disk_read _ _ _ _ _ ⟨#[97]⟩ HD.out (by decide)).mono ?_
  rintro e w6 ⟨A6, k6, he, hb, hk⟩
  obtain rfl : e = .returned (.tuple #[.slice A6 3 k6, .int .u16 0]) := he
  replace HD := hid (HD.out.ext hk)
  replace HE := hid (HE.out.ext hk)
  clear hb hk
  go_wp2_with fail
  refine (disk_sync _ _ _ _ _ ⟨#[98]⟩ HD.out (by decide)).mono ?_
  rintro e w7 ⟨he, hd, hk⟩
  obtain rfl : e = .returned (.int .u16 131) := he
  replace HE := hid (Keep.past HE.out hk)
  clear hd hk HD
  go_wp2_with fail
  refine (disk_new_no _).mono ?_
  rintro e w8 ⟨rfl, hk⟩
  replace HE := hid (HE.out.ext hk)
  clear hk
  go_wp2
  go_ret
  exact ⟨rfl, HE.out⟩
end Go.Proofs.Ytikophoopapngaa
