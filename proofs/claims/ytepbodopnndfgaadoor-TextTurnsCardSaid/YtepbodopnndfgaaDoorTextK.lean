/- The chapter's example of texts. -/
import Derived.Test.YtepbodopnndfgaaDoorTextF
set_option linter.unusedSimpArgs false
set_option linter.unusedVariables false
namespace Go.Proofs.YtepbodopnndfgaaDoor
open Go.RowKit
set_option linter.unusedVariables false

theorem next_asc (s : ByteArray) (ha : ∀ (j : Nat) (h : j < s.size), (s[j]'h).toNat < 128) (pos : Nat) (hp : pos < s.size) : (Utf8.decode s pos).2 = 1 := by rw [decode_ascii s pos hp (ha pos hp)]

set_option maxHeartbeats 800000 in
theorem at_asc (s : ByteArray) (ha : ∀ (j : Nat) (h : j < s.size), (s[j]'h).toNat < 128) (n : Nat) (hn : n ≤ s.size) (hs : s.size ≤ 1000) (w : World) :
    Calls Tryd.prog 22 #[.string s, .int .i64 (n : Int)] w fun e w' => e = .returned (.int .i64 (n : Int)) ∧ Ext w w' := by
  go_enter Tryd.func22, Tryd.ntmps22
  go_wp2
  go_loopw [1] (fun m w' => ∃ (pos : Nat), w' = w.iter s pos ∧ m = .int .i64 ((n - pos : Nat) : Int) ∧ pos ≤ n) (fun _ w' => s.size - w'.iterPos w.heap.size)
  case atStart => exact ⟨0, rfl, by simp, Nat.zero_le _⟩
  case round =>
    obtain ⟨pos, rfl, rfl, hpn⟩ := hrel
    have HE := hid (ext_iter w s pos)
    by_cases hp : pos < s.size
    · have hnx : ∀ ty, (Instr.next (.pointer (some ⟨w.heap.size, 0, none⟩)) true ty).run Tryd.prog (w.iter s pos) = _ := fun ty => run_next_any w s pos ty hp
      have hd := next_asc s ha pos hp
      obtain ⟨r, hr⟩ : ∃ r, (Utf8.decode s pos).1 = r := ⟨_, rfl⟩
      rw [hd, hr] at hnx
      by_cases h0 : n = pos
      · subst h0
        have hz : (((n - n : Nat) : Int) == 0) = true := by simp
        have HE2 := hid (ext_iter w s (n + 1))
        clear hd hr
        go_wp2
        go_ret
        exact ⟨rfl, HE2.out⟩
      · have hz : (((n - pos : Nat) : Int) == 0) = false := by simp; omega
        have hz2 : (1 : Int) ≤ ((n - pos : Nat) : Int) := by omega
        clear hd hr
        go_wp2
        go_roundw
        case rel => exact ⟨pos + 1, rfl, by go_num, by omega⟩
        case measure => simp; omega
    · have hnx : ∀ ty, (Instr.next (.pointer (some ⟨w.heap.size, 0, none⟩)) true ty).run Tryd.prog (w.iter s pos) = _ := fun ty => run_next_end w s pos ty hp
      obtain rfl : n = s.size := by omega
      go_wp2
      go_ret
      exact ⟨rfl, HE.out⟩

abbrev zc (k : UInt8) (i n : Int) (s : ByteArray) : Value := tcV (U8 k) (.slice none 0 0) (.string ⟨#[]⟩) i (.int .i64 0) n (U8 0) (.int .i64 0) (.string ⟨#[]⟩) (.slice none 0 0) (.slice none 0 0) (.string s)
def abcd : ByteArray := ⟨#[97, 98, 99, 100]⟩
def bcd : ByteArray := ⟨#[98, 99, 100]⟩
theorem abcd_asc : ∀ (j : Nat) (h : j < abcd.size), (abcd[j]'h).toNat < 128 := by decide
theorem bcd_asc : ∀ (j : Nat) (h : j < bcd.size), (bcd[j]'h).toNat < 128 := by decide
theorem count_abcd : Lib.runeCount abcd = 4 := Lib.runeCount_ascii abcd abcd_asc
set_option maxHeartbeats 1600000 in
theorem check_abcd (w : World) : Calls Tryd.prog 21 #[.string abcd, zc 9 1 2 ⟨#[]⟩] w fun e w' => e = .returned (.int .u16 0) ∧ Ext w w' := by
  have HL := hid (fun w' => tlen_any abcd (by decide) w')
  obtain ⟨W0, hW0⟩ : ∃ W0, w.alloc (.cells (tcA (U8 9) (.slice none 0 0) (.string ⟨#[]⟩) 1 (.int .i64 0) 2 (U8 0) (.int .i64 0) (.string ⟨#[]⟩) (.slice none 0 0) (.slice none 0 0) (.string ⟨#[]⟩)) TCOMP) = W0 := ⟨_, rfl⟩
  have hE0 : Ext w W0 := by rw [← hW0]; exact (Keep.refl _ _).alloc _
  have ha : Blk W0 w.heap.size TCOMP (tcA (U8 9) (.slice none 0 0) (.string ⟨#[]⟩) 1 (.int .i64 0) 2 (U8 0) (.int .i64 0) (.string ⟨#[]⟩) (.slice none 0 0) (.slice none 0 0) (.string ⟨#[]⟩)) := by rw [← hW0]; exact Blk.new _ _ _
  have HA := hid ha
  have HE0 := hid hE0
  clear ha hE0
  go_enter Tryd.func21, Tryd.ntmps21
  go_wp2_with fail
  refine (HL.out W0).mono ?_
  rintro e W1 ⟨rfl, hE⟩
  rw [count_abcd]
  obtain ⟨a0, a1, a2, a3, a4, a5, a6, a7, a8, a9, a10, a11⟩ := blk12 (HA.out.keep hE id)
  have HE := hid (HE0.out.ext hE)
  clear hE
  go_wp2
  go_ret
  exact ⟨rfl, HE.out⟩
set_option maxRecDepth 100000 in
set_option maxHeartbeats 1600000 in
theorem do_abcd (w : World) : Calls Tryd.prog 11 #[.string abcd, zc 9 1 2 ⟨#[]⟩] w fun e w' => e = .returned (.tuple #[.string ⟨#[97, 100]⟩, .int .u16 0]) ∧ Ext w w' := by
  obtain ⟨W0, hW0⟩ : ∃ W0, w.alloc (.cells (tcA (U8 9) (.slice none 0 0) (.string ⟨#[]⟩) 1 (.int .i64 0) 2 (U8 0) (.int .i64 0) (.string ⟨#[]⟩) (.slice none 0 0) (.slice none 0 0) (.string ⟨#[]⟩)) TCOMP) = W0 := ⟨_, rfl⟩
  have hE0 : Ext w W0 := by rw [← hW0]; exact (Keep.refl _ _).alloc _
  have ha : Blk W0 w.heap.size TCOMP (tcA (U8 9) (.slice none 0 0) (.string ⟨#[]⟩) 1 (.int .i64 0) 2 (U8 0) (.int .i64 0) (.string ⟨#[]⟩) (.slice none 0 0) (.slice none 0 0) (.string ⟨#[]⟩)) := by rw [← hW0]; exact Blk.new _ _ _
  have HA := hid ha
  have HE0 := hid hE0
  obtain ⟨a0, a1, a2, a3, a4, a5, a6, a7, a8, a9, a10, a11⟩ := blk12 ha
  clear ha hE0
  have hsz : abcd.size = 4 := rfl
  go_enter Tryd.func11, Tryd.ntmps11
  go_wp2_with fail
  refine (check_abcd W0).mono ?_
  rintro e W1 ⟨rfl, hE⟩
  have HA1 := hid (HA.out.keep hE id)
  have HE1 := hid (HE0.out.ext hE)
  clear hE a0 a1 a2 a3 a4 a5 a6 a7 a8 a9 a10 a11 hW0
  obtain ⟨a0, a1, a2, a3, a4, a5, a6, a7, a8, a9, a10, a11⟩ := blk12 HA1.out
  go_wp2_with fail
  refine (at_asc abcd abcd_asc 1 (by decide) (by decide) W1).mono ?_
  rintro e W2 ⟨rfl, hE⟩
  have HA2 := hid (HA1.out.keep hE id)
  have HE2 := hid (HE1.out.ext hE)
  clear hE a0 a1 a2 a3 a4 a5 a6 a7 a8 a9 a10 a11
  obtain ⟨a0, a1, a2, a3, a4, a5, a6, a7, a8, a9, a10, a11⟩ := blk12 HA2.out
  go_wp2_with fail
  have hx1 : abcd.extract 0 1 = ⟨#[97]⟩ := by decide
  have hx2 : abcd.extract 1 abcd.size = bcd := by decide
  have hx2' : abcd.extract 1 4 = bcd := by decide
  have hx3 : abcd.extract 3 4 = ⟨#[100]⟩ := by decide
  have HC := hid (fun w' => at_asc bcd bcd_asc 2 (by decide) (by decide) w')
  refine wp_region_grow (specOf [(10, fun v _ => v = .int .i64 2)]) (fun w' => Ext W2 w') (stable_cons (fun v w w' h he => h) stable_nil) (stableC_ext _) (by kernel_rfl) (by kernel_rfl) (Keep.drew (Keep.refl _ _)) ?_
  iterate 10
    (try simp only [Act.put, List.setIfInBounds_toArray, List.set_cons_zero, List.set_cons_succ])
    refine grow_run rfl rfl rfl ?_
    apply Exists.intro
    refine ⟨fun w' hC hK => ?_, ?_⟩
    · have a5 := (hC.cell (lt_of_cell a5) id).trans a5
      go_simp
      rfl
  (try simp only [Act.put, List.setIfInBounds_toArray, List.set_cons_zero, List.set_cons_succ])
  refine grow_eff rfl rfl rfl (fun w' hC hK => ?_) (fun v10 hv10 => ?_)
  · unfold growAt
    go_simp
    refine grow_call ((HC.out w').mono ?_)
    rintro e w'' ⟨rfl, h1⟩
    exact ⟨_, rfl, h1, rfl⟩
  obtain ⟨_, _, rfl⟩ := hv10.head
  clear hv10
  iterate 5
    (try simp only [Act.put, List.setIfInBounds_toArray, List.set_cons_zero, List.set_cons_succ])
    refine grow_run rfl rfl rfl ?_
    apply Exists.intro
    refine ⟨fun w' hC hK => ?_, ?_⟩
    · go_simp
      rfl
  refine grow_nil fun W3 hC _ => ?_
  have HE3 := hid (HE2.out.ext hC)
  clear hC a0 a1 a2 a3 a4 a5 a6 a7 a8 a9 a10 a11
  go_wp2
  go_ret2
  exact ⟨by first | rfl | decide, HE3.out⟩

/-- Flat components. -/
abbrev ZT (k : UInt8) (s : ByteArray) : El (Int × Int) := ETt (U8 k) (.slice none 0 0) (.string ⟨#[]⟩) (.int .i64 0) (U8 0) (.int .i64 0) (.string ⟨#[]⟩) (.slice none 0 0) (.slice none 0 0) (.string s)
theorem ZT.ok (k : UInt8) (s : ByteArray) : (ZT k s).Ok := ETt.ok (by intro u hu; simp at hu; rcases hu with rfl | rfl | rfl | rfl | rfl | rfl | rfl | rfl | rfl | rfl <;> rfl)
theorem zturn (ak : UInt8) (as_ : ByteArray) (bk : UInt8) (bs : ByteArray) (ai an bi bn : Int) (left : Bool) (hai : Tm ai) (han : Tm an) (hbi : Tm bi) (hbn : Tm bn) (hbs : bs.size ≤ 100000) (w : World) :
    Calls Tryd.prog 9 #[zc ak ai an as_, zc bk bi bn bs, .bool left] w fun e w' => ∃ A c, e = .returned (.slice A (tturn ak ai an bk bi bn (Lib.runeCount bs : Nat) left).length c) ∧ Sl (ZT ak as_) w' (fun _ => True) (.slice A (tturn ak ai an bk bi bn (Lib.runeCount bs : Nat) left).length c) (tturn ak ai an bk bi bn (Lib.runeCount bs : Nat) left) ∧ Ext w w' :=
  (turn_text ak none 0 0 ⟨#[]⟩ 0 0 0 ⟨#[]⟩ none 0 0 none 0 0 as_ bk _ _ _ _ _ _ _ _ bs ai an bi bn left hai han hbi hbn (by omega) w).mono fun e w' ⟨v, h1, h2, h3⟩ => by
    obtain ⟨A, c, rfl, _⟩ := h2.shape
    exact ⟨A, c, h1, h2.more (ZT.ok _ _) fun _ _ _ => trivial, h3⟩

set_option maxRecDepth 100000 in
set_option maxHeartbeats 3200000 in
theorem known_any (w : World) : Calls Tryd.prog 6 #[] w fun e w' => e = .returned (.bool true) ∧ Ext w w' := by
  have hc2 : Lib.runeCount ⟨#[120, 121]⟩ = 2 := by decide +kernel
  have hc3 : Lib.runeCount ⟨#[195, 169, 255]⟩ = 2 := by decide +kernel
  have HT := hid (fun w => zturn 9 ⟨#[]⟩ 8 ⟨#[120, 121]⟩ 1 3 2 0 true ⟨by decide, by decide⟩ ⟨by decide, by decide⟩ ⟨by decide, by decide⟩ ⟨by decide, by decide⟩ (by decide) w)
  rw [show tturn 9 1 3 8 2 0 (Lib.runeCount ⟨#[120, 121]⟩ : Nat) true = [(1, 1), (3, 2)] from by rw [hc2]; decide] at HT
  have HC3 := hid (fun w => tlen_any ⟨#[195, 169, 255]⟩ (by decide) w)
  rw [hc3] at HC3
  clear hc2 hc3
  go_enter Tryd.func6, Tryd.ntmps6
  go_wp2_with fail
  refine (HT.out w).mono ?_
  rintro e w1 ⟨A, c, rfl, hs, hE⟩
  have HS := hid hs
  have HE := hid hE
  clear hs hE HT
  go_wp2_with fail
  refine (do_abcd w1).mono ?_
  rintro e w2 ⟨rfl, hE⟩
  have hs2 := HS.out.ext (ZT.ok 9 ⟨#[]⟩) hE
  have HE2 := hid (HE.out.ext hE)
  clear hE
  obtain ⟨b0, o0, c0, rfl, _, _, hr0, hc0⟩ := hs2.at_ (ZT.ok 9 ⟨#[]⟩) (k := 0) (by simp)
  obtain ⟨b0', o0', c1, e0', _, _, hr1, hc1⟩ := hs2.at_ (ZT.ok 9 ⟨#[]⟩) (k := 1) (by simp)
  injection e0' with e0'
  injection e0' with e1 e2 _
  subst e1 e2
  have hz : (ZT 9 ⟨#[]⟩).size = 12 := rfl
  have p3 := hc0 3 (.int .i64 1) (by rw [hr0]; rfl)
  have p5 := hc0 5 (.int .i64 1) (by rw [hr0]; rfl)
  have q3 := hc1 3 (.int .i64 3) (by rw [hr1]; rfl)
  have q5 := hc1 5 (.int .i64 2) (by rw [hr1]; rfl)
  simp only [hz, Nat.zero_mul, Nat.add_zero, Nat.one_mul] at p3 p5 q3 q5
  clear hs2 hr0 hr1 hc0 hc1 hz HS
  have q3' : w2.cell? ⟨b0, o0 + 15, none⟩ = some (.int .i64 3) := q3
  have q5' : w2.cell? ⟨b0, o0 + 17, none⟩ = some (.int .i64 2) := q5
  go_wp2_with fail
  refine (HC3.out w2).mono ?_
  rintro e w3 ⟨rfl, hE⟩
  have HE3 := hid (HE2.out.ext hE)
  clear hE p3 p5 q3 q5 q3' q5'
  go_wp2
  go_ret
  exact ⟨rfl, HE3.out⟩
end Go.Proofs.YtepbodopnndfgaaDoor
