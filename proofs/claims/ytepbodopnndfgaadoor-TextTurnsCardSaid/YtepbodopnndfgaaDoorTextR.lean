/- The reference's text: how many characters, by contract (utf8.DecodeRuneInString off the library's shelf, its tables as they are laid). -/
import Derived.Test.YtepbodopnndfgaaDoorTextF
import Derived.Test.YtepbodopnndfgaaDoorLayDR
import Derived.Test.YtepbodopnndfgaaDoorOwnTwo
import Derived.Test.YtepbodopnndfgaaDoorOpenX
import Derived.Lib.RuneCountTail
import Derived.Shelf.Unicode.DecodeLastEight
import Derived.Lib.LaidU8T
import Derived.LaidByTextLater
set_option linter.unusedSimpArgs false
set_option linter.unusedVariables false
namespace Go.Proofs.YtepbodopnndfgaaDoor
open Go.RowKit
set_option linter.unusedVariables false

/-- utf8.DecodeRuneInString, in whatever world that has grown out of w0. -/
def DecAny (w0 : World) : Prop := ∀ s : ByteArray, ∀ w', Ext w0 w' → Calls Tryd.prog 28 #[.string s] w' fun e w'' => e = .returned (.tuple #[.int .i32 (Lib.decodeGo s).1, .int .i64 (Lib.decodeGo s).2]) ∧ Ext w' w''
theorem DecAny.ext {w0 w : World} (h : DecAny w0) (he : Ext w0 w) : DecAny w := fun s w' h' => h s w' (he.ext h')
theorem dec_any {w0 : World} (hT : Lib.Utf8Tabs (Tryd.laysDR_ren.g 3) (Tryd.laysDR_ren.g 4) w0) : DecAny w0 := fun s w' he =>
  (Any.utf8_DecodeRuneInString Tryd.laysDR s w' (Utf8Tabs_below hT he.toBelow)).mono fun e w'' h => ⟨h.1, Keep.of_below h.2 fun k h1 h2 => absurd h1 (Nat.not_lt.2 h2)⟩

theorem count_step (s : ByteArray) (i : Nat) (h : i < s.size) : Lib.runeCountFrom s (s.size - i) i = 1 + Lib.runeCountFrom s (s.size - (i + (Utf8.decode s i).2)) (i + (Utf8.decode s i).2) := by
  obtain ⟨f, hf⟩ : ∃ f, s.size - i = f + 1 := ⟨s.size - i - 1, by omega⟩
  have hw := Lib.decode_width_pos s i h
  rw [hf, Lib.runeCountFrom, if_pos h]
  congr 1
  exact Lib.fuel_enough s _ _ _ (by omega) (by omega)

theorem ty_ints : TyInfo Tryd.prog 58 3 1 8 := by
  obtain ⟨i, h1, h2, h3, h4⟩ := info_parts (show (Tryd.prog.info? 3).map (fun i => (i.zero, i.size, i.bytes)) = some (some (.int .i64 0), 1, 8) from by kernel_rfl)
  exact ⟨Tryd.underlying58, i, _, h1, h2, h3, h4, rfl⟩
theorem dec_width (s : ByteArray) (i : Nat) (h : i < s.size) : (Lib.decodeGo (s.extract i s.size)).2 = (Utf8.decode s i).2 ∧ (Utf8.decode s i).2 ≤ s.size - i ∧ 1 ≤ (Utf8.decode s i).2 := by
  have hz := Lib.tail_size s i
  have h1 : (Lib.decodeGo (s.extract i s.size)).2 = (Utf8.decode s i).2 := by
    unfold Lib.decodeGo
    rw [if_neg (by omega), Lib.tail_decode, Nat.add_zero]
  have h2 := Lib.decodeGo_le_size (s.extract i s.size)
  exact ⟨h1, by omega, Lib.decode_width_pos s i h⟩

set_option maxRecDepth 100000 in
set_option maxHeartbeats 1600000 in
theorem cuts_any (s : ByteArray) (hs : s.size ≤ 100000) (w : World) (hD : DecAny w) :
    Calls Tryd.prog 27 #[.string s] w fun e w' => ∃ A c, e = .returned (.slice A (Lib.runeCount s + 1) c) ∧ Ext w w' := by
  have HD := hid hD
  clear hD
  go_enter Tryd.func27, Tryd.ntmps27
  go_wp2
  go_loopw [3, 4] (fun o p wr => ∃ (l : List Int) (i : Nat), i ≤ s.size ∧ p = .int .i64 (i : Int) ∧ l.length + Lib.runeCountFrom s (s.size - i) i = Lib.runeCount s ∧ Own (EInt .i64) wr w.heap.size 3 (fun _ => False) o l ∧ Ext w wr) (fun _ p _ => s.size - (intOf p).toNat)
  case atStart => exact ⟨[], 0, Nat.zero_le _, rfl, by simp [Lib.runeCount], Own.nil _ _ _ _, Keep.refl _ _⟩
  case round =>
    obtain ⟨l, i, hi, rfl, hcnt, ho, hE⟩ := hrel
    obtain ⟨Ao, co, rfl, _, _⟩ := ho.shape
    have hle := Lib.runeCount_le s
    have hll : l.length ≤ s.size := by omega
    by_cases hlt : i < s.size
    · have hw := dec_width s i hlt
      have hst := count_step s i hlt
      obtain ⟨k, hk⟩ : ∃ k, (Utf8.decode s i).2 = k := ⟨_, rfl⟩
      rw [hk] at hw hst
      have HC := hid (show (l ++ [(i : Int)]).length + Lib.runeCountFrom s (s.size - (i + k)) (i + k) = Lib.runeCount s from by rw [List.length_append, List.length_singleton]; omega)
      obtain ⟨W1, hW1⟩ : ∃ W1, wr.alloc (.cells #[.int .i64 (i : Int)] 3) = W1 := ⟨_, rfl⟩
      have hE1 : Ext wr W1 := by rw [← hW1]; exact (Keep.refl _ _).alloc _
      have hrow : RowS W1 (fun k => k = wr.heap.size) 1 (.slice (some ⟨wr.heap.size, 0, none⟩) 1 1) 1 [.int .i64 (i : Int)] := by
        rw [← hW1]; exact RowS.new (w := wr) (t := 3) (sz := 1) (cs := [.int .i64 (i : Int)]) (n := 1) rfl (by simp [maxLen])
      have HO := hid (ho.ext (EInt.ok .i64) hE1)
      have HRW := hid hrow
      have HW1 := hid hW1
      have HE1 := hid (hE.ext hE1)
      have HL := hid (fun g (e : (Value.slice Ao l.length co).ownBlock = some g) => (ho.lt e).1)
      have hw1 := hw.1
      have hw2 := hw.2.1
      have hw3 := hw.2.2
      have hsl : (i : Int) < s.size := by omega
      clear hcnt ho hE hE1 hrow hk hst hw hW1
      go_wp2_with (at_builtin; refine wpList_own_append2 (P := Tryd.prog) (E := EInt .i64) (v := .slice Ao l.length co) (ys := [(i : Int)]) _ rfl (.tmp 11) (.tmp 13) (EInt.ok .i64) ty_ints rfl rfl rfl (HW1.out ▸ HO.out) (HW1.out ▸ HRW.out) (Cells.single (S := fun _ => False) rfl) ?f1 ?f2 ?f3 ?f4 ?_)
      case f1 => exact fun g _ => ⟨id, id⟩
      case f2 => simp only [List.length_singleton]; omega
      case f3 => simp only [List.length_singleton, maxLen]; omega
      case f4 => rw [HW1.out]; exact HE1.out.size
      intro v2 w2 hown2 hk2 hb2
      rw [HW1.out] at hk2
      obtain ⟨A2, c2, e2, _⟩ := hown2.shape
      subst e2
      have HO2 := hid (hown2.more (S' := fun _ => False) (EInt.ok .i64) fun _ _ h => by simp at h)
      have HE2 := hid (HE1.out.trans hk2 fun k hk e => by have := HL.out k e; omega)
      clear hown2 hk2 hb2 HO HRW
      rw [show (l ++ [(i : Int)]).length = l.length + 1 from by simp] at HO2 ⊢
      go_wp2_with fail
      refine (HD.out _ w2 HE2.out).mono ?_
      rintro e w3 ⟨rfl, hE3⟩
      rw [hw1]
      have HE3 := hid (HE2.out.ext hE3)
      have HO3 := hid (HO2.out.ext (EInt.ok .i64) hE3)
      generalize (Lib.decodeGo (s.extract i s.size)).1 = rn at *
      clear hE3 hw1 HO2
      go_wp2
      exact ⟨⟨l ++ [(i : Int)], i + k, by omega, by go_num, HC.out, HO3.out, HE3.out⟩, by simp [intOf]; omega⟩
    · obtain rfl : i = s.size := by omega
      have hc0 : l.length = Lib.runeCount s := by rw [Lib.runeCountFrom_end s _ _ (by omega)] at hcnt; exact hcnt
      obtain ⟨W1, hW1⟩ : ∃ W1, wr.alloc (.cells #[.int .i64 (s.size : Int)] 3) = W1 := ⟨_, rfl⟩
      have hE1 : Ext wr W1 := by rw [← hW1]; exact (Keep.refl _ _).alloc _
      have hrow : RowS W1 (fun k => k = wr.heap.size) 1 (.slice (some ⟨wr.heap.size, 0, none⟩) 1 1) 1 [.int .i64 (s.size : Int)] := by
        rw [← hW1]; exact RowS.new (w := wr) (t := 3) (sz := 1) (cs := [.int .i64 (s.size : Int)]) (n := 1) rfl (by simp [maxLen])
      have HO := hid (ho.ext (EInt.ok .i64) hE1)
      have HRW := hid hrow
      have HW1 := hid hW1
      have HE1 := hid (hE.ext hE1)
      have HL := hid (fun g (e : (Value.slice Ao l.length co).ownBlock = some g) => (ho.lt e).1)
      have HC0 := hid hc0
      clear hcnt ho hE hE1 hrow hW1 hc0
      go_wp2_with (at_builtin; refine wpList_own_append2 (P := Tryd.prog) (E := EInt .i64) (v := .slice Ao l.length co) (ys := [(s.size : Int)]) _ rfl (.tmp 25) (.tmp 28) (EInt.ok .i64) ty_ints rfl rfl rfl (HW1.out ▸ HO.out) (HW1.out ▸ HRW.out) (Cells.single (S := fun _ => False) rfl) ?f1 ?f2 ?f3 ?f4 ?_)
      case f1 => exact fun g _ => ⟨id, id⟩
      case f2 => simp only [List.length_singleton]; omega
      case f3 => simp only [List.length_singleton, maxLen]; omega
      case f4 => rw [HW1.out]; exact HE1.out.size
      intro v2 w2 hown2 hk2 hb2
      rw [HW1.out] at hk2
      obtain ⟨A2, c2, e2, _⟩ := hown2.shape
      subst e2
      have HE2 := hid (HE1.out.trans hk2 fun k hk e => by have := HL.out k e; omega)
      rw [show (l ++ [(s.size : Int)]).length = l.length + 1 from by simp]
      clear hown2 hk2 hb2 HO HRW
      go_wp2
      go_ret
      exact ⟨A2, c2, by rw [← HC0.out]; rfl, HE2.out⟩

set_option maxHeartbeats 800000 in
theorem rlen_any (s : ByteArray) (hs : s.size ≤ 100000) (w : World) (hD : DecAny w) :
    Calls Tryd.prog 20 #[.string s] w fun e w' => e = .returned (.int .i64 (Lib.runeCount s : Nat)) ∧ Ext w w' := by
  have hle := Lib.runeCount_le s
  have HC := hid (cuts_any s hs w hD)
  clear hD
  go_enter Tryd.func20, Tryd.ntmps20
  go_wp2_with fail
  refine HC.out.mono ?_
  rintro e w1 ⟨A, c, rfl, hE⟩
  have HE := hid hE
  generalize hn : Lib.runeCount s = n at *
  have HN := hid hn
  clear hE HC hn
  go_wp2
  go_ret
  exact ⟨by rw [HN.out]; rfl, HE.out⟩
end Go.Proofs.YtepbodopnndfgaaDoor
