/- TextR, TextS, TextU, TextV: laid together. -/
import Derived.Test.YtioplgfopillnaaDoorTtB21
import Derived.Test.YtioplgfopillnaaDoorTtB22
import Derived.Test.YtioplgfopillnaaDoorTtB6
import Derived.Lib.RuneCountTail
import Derived.Shelf.Unicode.DecodeLastEight
import Derived.Lib.LaidU8T
import Derived.LaidByTextLater
/- The reference's text: how many characters, by contract (utf8.DecodeRuneInString off the library's shelf, its tables as they are laid). -/
set_option linter.unusedSimpArgs false
set_option linter.unusedVariables false
namespace Go.Proofs.YtioplgfopillnaaDoor
open Go.RowKit
set_option linter.unusedVariables false

/-- utf8.DecodeRuneInString, in whatever world that has grown out of w0. -/
def DecAny (w0 : World) : Prop := ∀ s : ByteArray, ∀ w', Ext w0 w' → Calls Tryd.prog 96 #[.string s] w' fun e w'' => e = .returned (.tuple #[.int .i32 (Lib.decodeGo s).1, .int .i64 (Lib.decodeGo s).2]) ∧ Ext w' w''
theorem DecAny.ext {w0 w : World} (h : DecAny w0) (he : Ext w0 w) : DecAny w := fun s w' h' => h s w' (he.ext h')
theorem dec_any {w0 : World} (hT : Lib.Utf8Tabs (Tryd.laysDR_ren.g 3) (Tryd.laysDR_ren.g 4) w0) : DecAny w0 := fun s w' he =>
  (Any.utf8_DecodeRuneInString Tryd.laysDR s w' (Utf8Tabs_below hT he.toBelow)).mono fun e w'' h => ⟨h.1, Keep.of_below h.2 fun k h1 h2 => absurd h1 (Nat.not_lt.2 h2)⟩

theorem count_step (s : ByteArray) (i : Nat) (h : i < s.size) : Lib.runeCountFrom s (s.size - i) i = 1 + Lib.runeCountFrom s (s.size - (i + (Utf8.decode s i).2)) (i + (Utf8.decode s i).2) := by
  obtain ⟨f, hf⟩ : ∃ f, s.size - i = f + 1 := ⟨s.size - i - 1, by omega⟩
  have hw := Lib.decode_width_pos s i h
  rw [hf, Lib.runeCountFrom, if_pos h]
  congr 1
  exact Lib.fuel_enough s _ _ _ (by omega) (by omega)

theorem ty_ints : TyInfo Tryd.prog 94 3 1 8 := by
  obtain ⟨i, h1, h2, h3, h4⟩ := info_parts (show (Tryd.prog.info? 3).map (fun i => (i.zero, i.size, i.bytes)) = some (some (.int .i64 0), 1, 8) from by kernel_rfl)
  exact ⟨Tryd.underlying94, i, _, h1, h2, h3, h4, rfl⟩
theorem dec_width (s : ByteArray) (i : Nat) (h : i < s.size) : (Lib.decodeGo (s.extract i s.size)).2 = (Utf8.decode s i).2 ∧ (Utf8.decode s i).2 ≤ s.size - i ∧ 1 ≤ (Utf8.decode s i).2 := by
  have hz := Lib.tail_size s i
  have h1 : (Lib.decodeGo (s.extract i s.size)).2 = (Utf8.decode s i).2 := by
    unfold Lib.decodeGo
    rw [if_neg (by omega), Lib.tail_decode, Nat.add_zero]
  have h2 := Lib.decodeGo_le_size (s.extract i s.size)
  exact ⟨h1, by omega, Lib.decode_width_pos s i h⟩

set_option maxRecDepth 100000 in
set_option maxHeartbeats 1600000 in
theorem cuts_any (s : ByteArray) (hs : s.size ≤ 100000) (w : World) (hD : DecAny w) :
    Calls Tryd.prog 73 #[.string s] w fun e w' => ∃ A c, e = .returned (.slice A (Lib.runeCount s + 1) c) ∧ Ext w w' := by
  have HD := hid hD
  clear hD
  go_enter Tryd.func73, Tryd.ntmps73
  go_wp2
  go_loopw [3, 4] (fun o p wr => ∃ (l : List Int) (i : Nat), i ≤ s.size ∧ p = .int .i64 (i : Int) ∧ l.length + Lib.runeCountFrom s (s.size - i) i = Lib.runeCount s ∧ Own (EInt .i64) wr w.heap.size 3 (fun _ => False) o l ∧ Ext w wr) (fun _ p _ => s.size - (intOf p).toNat)
  case atStart => exact ⟨[], 0, Nat.zero_le _, rfl, by simp [Lib.runeCount], Own.nil _ _ _ _, Keep.refl _ _⟩
  case round =>
    obtain ⟨l, i, hi, rfl, hcnt, ho, hE⟩ := hrel
    obtain ⟨Ao, co, rfl, _, _⟩ := ho.shape
    have hle := Lib.runeCount_le s
    have hll : l.length ≤ s.size := by omega
    by_cases hlt : i < s.size
    · have hw := dec_width s i hlt
      have hst := count_step s i hlt
      obtain ⟨k, hk⟩ : ∃ k, (Utf8.decode s i).2 = k := ⟨_, rfl⟩
      rw [hk] at hw hst
      have HC := hid (show (l ++ [(i : Int)]).length + Lib.runeCountFrom s (s.size - (i + k)) (i + k) = Lib.runeCount s from by rw [List.length_append, List.length_singleton]; omega)
      obtain ⟨W1, hW1⟩ : ∃ W1, wr.alloc (.cells #[.int .i64 (i : Int)] 3) = W1 := ⟨_, rfl⟩
      have hE1 : Ext wr W1 := by rw [← hW1]; exact (Keep.refl _ _).alloc _
      have hrow : RowS W1 (fun k => k = wr.heap.size) 1 (.slice (some ⟨wr.heap.size, 0, none⟩) 1 1) 1 [.int .i64 (i : Int)] := by
        rw [← hW1]; exact RowS.new (w := wr) (t := 3) (sz := 1) (cs := [.int .i64 (i : Int)]) (n := 1) rfl (by simp [maxLen])
      have HO := hid (ho.ext (EInt.ok .i64) hE1)
      have HRW := hid hrow
      have HW1 := hid hW1
      have HE1 := hid (hE.ext hE1)
      have HL := hid (fun g (e : (Value.slice Ao l.length co).ownBlock = some g) => (ho.lt e).1)
      have hw1 := hw.1
      have hw2 := hw.2.1
      have hw3 := hw.2.2
      have hsl : (i : Int) < s.size := by omega
      clear hcnt ho hE hE1 hrow hk hst hw hW1
      go_wp2_with (at_builtin; refine wpList_own_append2 (P := Tryd.prog) (E := EInt .i64) (v := .slice Ao l.length co) (ys := [(i : Int)]) _ rfl (.tmp 11) (.tmp 13) (EInt.ok .i64) ty_ints rfl rfl rfl (HW1.out ▸ HO.out) (HW1.out ▸ HRW.out) (Cells.single (S := fun _ => False) rfl) ?f1 ?f2 ?f3 ?f4 ?_)
      case f1 => exact fun g _ => ⟨id, id⟩
      case f2 => simp only [List.length_singleton]; omega
      case f3 => simp only [List.length_singleton, maxLen]; omega
      case f4 => rw [HW1.out]; exact HE1.out.size
      intro v2 w2 hown2 hk2 hb2
      rw [HW1.out] at hk2
      obtain ⟨A2, c2, e2, _⟩ := hown2.shape
      subst e2
      have HO2 := hid (hown2.more (S' := fun _ => False) (EInt.ok .i64) fun _ _ h => by simp at h)
      have HE2 := hid (HE1.out.trans hk2 fun k hk e => by have := HL.out k e; omega)
      clear hown2 hk2 hb2 HO HRW
      rw [show (l ++ [(i : Int)]).length = l.length + 1 from by simp] at HO2 ⊢
      go_wp2_with fail
      refine (HD.out _ w2 HE2.out).mono ?_
      rintro e w3 ⟨rfl, hE3⟩
      rw [hw1]
      have HE3 := hid (HE2.out.ext hE3)
      have HO3 := hid (HO2.out.ext (EInt.ok .i64) hE3)
      generalize (Lib.decodeGo (s.extract i s.size)).1 = rn at *
      clear hE3 hw1 HO2
      go_wp2
      exact ⟨⟨l ++ [(i : Int)], i + k, by omega, by go_num, HC.out, HO3.out, HE3.out⟩, by simp [intOf]; omega⟩
    · obtain rfl : i = s.size := by omega
      have hc0 : l.length = Lib.runeCount s := by rw [Lib.runeCountFrom_end s _ _ (by omega)] at hcnt; exact hcnt
      obtain ⟨W1, hW1⟩ : ∃ W1, wr.alloc (.cells #[.int .i64 (s.size : Int)] 3) = W1 := ⟨_, rfl⟩
      have hE1 : Ext wr W1 := by rw [← hW1]; exact (Keep.refl _ _).alloc _
      have hrow : RowS W1 (fun k => k = wr.heap.size) 1 (.slice (some ⟨wr.heap.size, 0, none⟩) 1 1) 1 [.int .i64 (s.size : Int)] := by
        rw [← hW1]; exact RowS.new (w := wr) (t := 3) (sz := 1) (cs := [.int .i64 (s.size : Int)]) (n := 1) rfl (by simp [maxLen])
      have HO := hid (ho.ext (EInt.ok .i64) hE1)
      have HRW := hid hrow
      have HW1 := hid hW1
      have HE1 := hid (hE.ext hE1)
      have HL := hid (fun g (e : (Value.slice Ao l.length co).ownBlock = some g) => (ho.lt e).1)
      have HC0 := hid hc0
      clear hcnt ho hE hE1 hrow hW1 hc0
      go_wp2_with (at_builtin; refine wpList_own_append2 (P := Tryd.prog) (E := EInt .i64) (v := .slice Ao l.length co) (ys := [(s.size : Int)]) _ rfl (.tmp 25) (.tmp 28) (EInt.ok .i64) ty_ints rfl rfl rfl (HW1.out ▸ HO.out) (HW1.out ▸ HRW.out) (Cells.single (S := fun _ => False) rfl) ?f1 ?f2 ?f3 ?f4 ?_)
      case f1 => exact fun g _ => ⟨id, id⟩
      case f2 => simp only [List.length_singleton]; omega
      case f3 => simp only [List.length_singleton, maxLen]; omega
      case f4 => rw [HW1.out]; exact HE1.out.size
      intro v2 w2 hown2 hk2 hb2
      rw [HW1.out] at hk2
      obtain ⟨A2, c2, e2, _⟩ := hown2.shape
      subst e2
      have HE2 := hid (HE1.out.trans hk2 fun k hk e => by have := HL.out k e; omega)
      rw [show (l ++ [(s.size : Int)]).length = l.length + 1 from by simp]
      clear hown2 hk2 hb2 HO HRW
      go_wp2
      go_ret
      exact ⟨A2, c2, by rw [← HC0.out]; rfl, HE2.out⟩

set_option maxHeartbeats 800000 in
theorem rlen_any (s : ByteArray) (hs : s.size ≤ 100000) (w : World) (hD : DecAny w) :
    Calls Tryd.prog 66 #[.string s] w fun e w' => e = .returned (.int .i64 (Lib.runeCount s : Nat)) ∧ Ext w w' := by
  have hle := Lib.runeCount_le s
  have HC := hid (cuts_any s hs w hD)
  clear hD
  go_enter Tryd.func66, Tryd.ntmps66
  go_wp2_with fail
  refine HC.out.mono ?_
  rintro e w1 ⟨A, c, rfl, hE⟩
  have HE := hid hE
  generalize hn : Lib.runeCount s = n at *
  have HN := hid hn
  clear hE HC hn
  go_wp2
  go_ret
  exact ⟨by rw [HN.out]; rfl, HE.out⟩
end Go.Proofs.YtioplgfopillnaaDoor

/- The reference's text.Turn by contract. -/
set_option linter.unusedSimpArgs false
set_option linter.unusedVariables false
namespace Go.Proofs.YtioplgfopillnaaDoor
open Go.RowKit
set_option linter.unusedVariables false

set_option maxRecDepth 100000 in
set_option maxHeartbeats 3200000 in
theorem behind_any (k : UInt8) (pA : Option Addr) (pn pc : Nat) (key : ByteArray) (j : Int) (y0 : UInt8) (y1 : Int) (y2 : ByteArray) (A3 : Option Addr) (n3 c3 : Nat) (A4 : Option Addr) (n4 c4 : Nat) (s : ByteArray) (bk : UInt8) (p' key' j' u0 u1 u2 u3 u4 : Value) (bs : ByteArray) (ai an bi bn : Int) (hai : Tm ai) (han : Tm an) (hbi : Tm bi) (hbn : Tm bn) (w : World) :
    Calls Tryd.prog 64 #[tcV (U8 k) (.slice pA pn pc) (.string key) ai (.int .i64 j) an (U8 y0) (.int .i64 y1) (.string y2) (.slice A3 n3 c3) (.slice A4 n4 c4) (.string s), tcV (U8 bk) p' key' bi j' bn u0 u1 u2 u3 u4 (.string bs)] w
      (TextIs (U8 k) (.slice pA pn pc) (.string key) (.int .i64 j) (U8 y0) (.int .i64 y1) (.string y2) (.slice A3 n3 c3) (.slice A4 n4 c4) (.string s) w (if (shrinkL ai an bi bn).2 = 0 then [] else [shrinkL ai an bi bn])) := by
  obtain ⟨hai1, hai2⟩ := hai
  obtain ⟨han1, han2⟩ := han
  obtain ⟨hbi1, hbi2⟩ := hbi
  obtain ⟨hbn1, hbn2⟩ := hbn
  obtain ⟨W0, hW0⟩ : ∃ W0, (w.alloc (.cells (tcA (U8 k) (.slice pA pn pc) (.string key) ai (.int .i64 j) an (U8 y0) (.int .i64 y1) (.string y2) (.slice A3 n3 c3) (.slice A4 n4 c4) (.string s)) TCOMP)).alloc (.cells (tcA (U8 bk) p' key' bi j' bn u0 u1 u2 u3 u4 (.string bs)) TCOMP) = W0 := ⟨_, rfl⟩
  have hE0 : Ext w W0 := by rw [← hW0]; exact ((Keep.refl _ _).alloc _).alloc _
  have hsz : W0.heap.size = w.heap.size + 2 := by rw [← hW0]; simp
  have ha : Blk W0 w.heap.size TCOMP (tcA (U8 k) (.slice pA pn pc) (.string key) ai (.int .i64 j) an (U8 y0) (.int .i64 y1) (.string y2) (.slice A3 n3 c3) (.slice A4 n4 c4) (.string s)) := by rw [← hW0]; exact (Blk.new w TCOMP _).alloc _
  have hb : Blk W0 (w.heap.size + 1) TCOMP (tcA (U8 bk) p' key' bi j' bn u0 u1 u2 u3 u4 (.string bs)) := by
    have := Blk.new (w.alloc (.cells (tcA (U8 k) (.slice pA pn pc) (.string key) ai (.int .i64 j) an (U8 y0) (.int .i64 y1) (.string y2) (.slice A3 n3 c3) (.slice A4 n4 c4) (.string s)) TCOMP)) TCOMP (tcA (U8 bk) p' key' bi j' bn u0 u1 u2 u3 u4 (.string bs))
    rw [World.size_alloc] at this
    rw [← hW0]; exact this
  have HSZ := hid hsz
  have HA := hid ha
  have HB := hid hb
  have HE0 := hid hE0
  obtain ⟨a0, a1, a2, a3, a4, a5, a6, a7, a8, a9, a10, a11⟩ := blk12 ha
  obtain ⟨b0, b1, b2, b3, b4, b5, b6, b7, b8, b9, b10, b11⟩ := blk12 hb
  have f3 := ha.frozen 3
  have f5 := ha.frozen 5
  obtain ⟨ah, hah⟩ : ∃ ah, max (min ai (bi + bn) - bi) 0 = ah := ⟨_, rfl⟩
  obtain ⟨bo, hbo⟩ : ∃ bo, max (min (ai + an) (bi + bn) - max ai bi) 0 = bo := ⟨_, rfl⟩
  have hahb : 0 ≤ ah ∧ ah ≤ 1152921504606846976 := by omega
  have hbob : 0 ≤ bo ∧ bo ≤ an := by omega
  have hsh : shrinkL ai an bi bn = (ai - ah, an - bo) := by unfold shrinkL; rw [hbo, show max (min (bi + bn) ai - bi) 0 = ah from by rw [← hah]; omega]
  rw [hsh]
  obtain ⟨W1, hW1⟩ : ∃ W1, W0.setCell ⟨w.heap.size, 5, none⟩ (.int .i64 (an - bo)) = W1 := ⟨_, rfl⟩
  have hk1 : Keep (· = w.heap.size) W0 W1 := by rw [← hW1]; exact (Keep.refl _ _).set1 5 _
  have ha1 : Blk W1 w.heap.size TCOMP _ := hW1 ▸ ha.set_ 5 (.int .i64 (an - bo))
  obtain ⟨W2, hW2⟩ : ∃ W2, W1.setCell ⟨w.heap.size, 3, none⟩ (.int .i64 (ai - ah)) = W2 := ⟨_, rfl⟩
  have hk2 : Keep (· = w.heap.size) W1 W2 := by rw [← hW2]; exact (Keep.refl _ _).set1 3 _
  have ha2 : Blk W2 w.heap.size TCOMP _ := hW2 ▸ ha1.set_ 3 (.int .i64 (ai - ah))
  have q3 := ha1.cell 3
  have g3 := ha1.frozen 3
  simp at q3
  obtain ⟨c0, c1, c2, c3', c4', c5, c6, c7, c8, c9, c10, c11⟩ := blk12 ha2
  have HE2 := hid (HE0.out.trans (hk1.trans hk2 fun _ _ h => h) fun q hq e => by omega)
  have HAH := hid hah
  have HBO := hid hbo
  clear hk1 hk2 ha1 ha2 ha hb hE0 hsz hsh
  by_cases hn : an - bo = 0
  · have hn' : (an - bo == 0) = true := by simpa using hn
    rw [if_pos hn]
    clear hn
    go_enter Tryd.func64, Tryd.ntmps64
    go_wp2
    go_ret
    exact text_nil _ _ _ _ _ _ _ _ _ _ HE2.out
  · have hn' : (an - bo == 0) = false := by simpa using hn
    rw [if_neg hn]
    clear hn
    go_enter Tryd.func64, Tryd.ntmps64
    go_wp2
    go_ret
    exact text_one _ _ _ _ _ _ _ _ _ _ HE2.out rfl
end Go.Proofs.YtioplgfopillnaaDoor

/- The reference's split by contract. -/
set_option linter.unusedSimpArgs false
set_option linter.unusedVariables false
namespace Go.Proofs.YtioplgfopillnaaDoor
open Go.RowKit
set_option linter.unusedVariables false

set_option maxRecDepth 100000 in
set_option maxHeartbeats 3200000 in
theorem rsplit_any (k : UInt8) (pA : Option Addr) (pn pc : Nat) (key : ByteArray) (j : Int) (y0 : UInt8) (y1 : Int) (y2 : ByteArray) (A3 : Option Addr) (n3 c3 : Nat) (A4 : Option Addr) (n4 c4 : Nat) (s : ByteArray) (bk : UInt8) (p' key' j' u0 u1 u2 u3 u4 : Value) (bs : ByteArray) (ai an bi bn : Int) (hai : Tm ai) (han : Tm an) (hbi : Tm bi) (hbs : bs.size ≤ 100000) (w : World) (hD : DecAny w) :
    Calls Tryd.prog 65 #[tcV (U8 k) (.slice pA pn pc) (.string key) ai (.int .i64 j) an (U8 y0) (.int .i64 y1) (.string y2) (.slice A3 n3 c3) (.slice A4 n4 c4) (.string s), tcV (U8 bk) p' key' bi j' bn u0 u1 u2 u3 u4 (.string bs)] w
      (TextIs (U8 k) (.slice pA pn pc) (.string key) (.int .i64 j) (U8 y0) (.int .i64 y1) (.string y2) (.slice A3 n3 c3) (.slice A4 n4 c4) (.string s) w (splitL ai an bi (Lib.runeCount bs : Nat))) := by
  obtain ⟨hai1, hai2⟩ := hai
  obtain ⟨han1, han2⟩ := han
  obtain ⟨hbi1, hbi2⟩ := hbi
  obtain ⟨W0, hW0⟩ : ∃ W0, (w.alloc (.cells (tcA (U8 k) (.slice pA pn pc) (.string key) ai (.int .i64 j) an (U8 y0) (.int .i64 y1) (.string y2) (.slice A3 n3 c3) (.slice A4 n4 c4) (.string s)) TCOMP)).alloc (.cells (tcA (U8 bk) p' key' bi j' bn u0 u1 u2 u3 u4 (.string bs)) TCOMP) = W0 := ⟨_, rfl⟩
  have hE0 : Ext w W0 := by rw [← hW0]; exact ((Keep.refl _ _).alloc _).alloc _
  have hsz : W0.heap.size = w.heap.size + 2 := by rw [← hW0]; simp
  have ha : Blk W0 w.heap.size TCOMP (tcA (U8 k) (.slice pA pn pc) (.string key) ai (.int .i64 j) an (U8 y0) (.int .i64 y1) (.string y2) (.slice A3 n3 c3) (.slice A4 n4 c4) (.string s)) := by rw [← hW0]; exact (Blk.new w TCOMP _).alloc _
  have hb : Blk W0 (w.heap.size + 1) TCOMP (tcA (U8 bk) p' key' bi j' bn u0 u1 u2 u3 u4 (.string bs)) := by
    have := Blk.new (w.alloc (.cells (tcA (U8 k) (.slice pA pn pc) (.string key) ai (.int .i64 j) an (U8 y0) (.int .i64 y1) (.string y2) (.slice A3 n3 c3) (.slice A4 n4 c4) (.string s)) TCOMP)) TCOMP (tcA (U8 bk) p' key' bi j' bn u0 u1 u2 u3 u4 (.string bs))
    rw [World.size_alloc] at this
    rw [← hW0]; exact this
  have hrb : Lib.runeCount bs ≤ bs.size := Lib.runeCount_le bs
  have HLEN := hid (rlen_any bs hbs W0 (hD.ext hE0))
  obtain ⟨rb, hr⟩ : ∃ rb : Nat, Lib.runeCount bs = rb := ⟨_, rfl⟩
  rw [hr] at hrb ⊢
  have HRB := hid hr
  have HSZ := hid hsz
  have HA := hid ha
  have HE0 := hid hE0
  have HB := hid hb
  have b11 := hb.cell 11
  simp only [List.getElem?_toArray, List.getElem?_cons_succ, List.getElem?_cons_zero] at b11
  clear hsz ha hb hE0 hr hD
  go_enter Tryd.func65, Tryd.ntmps65
  go_wp2_with fail
  refine HLEN.out.mono ?_
  rintro e W1 ⟨rfl, hE1⟩
  rw [HRB.out]
  have HA1 := hid (HA.out.keep hE1 id)
  have hB1 := HB.out.keep hE1 id
  have HE1 := hid (HE0.out.ext hE1)
  have HLT := hid HA1.out.lt
  have b3 := hB1.cell 3
  simp at b3
  obtain ⟨a0, a1, a2, a3, a4, a5, a6, a7, a8, a9, a10, a11⟩ := blk12 HA1.out
  have f3 := HA1.out.frozen 3
  clear hE1 hB1 HLEN HA HB HE0 HRB HSZ b11 hW0
  by_cases h1 : bi ≤ ai
  · have HR := hid (show splitL ai an bi rb = [(ai + rb, an)] from by unfold splitL; rw [if_pos (by omega)])
    generalize splitL ai an bi rb = R at *
    obtain ⟨W2, hW2⟩ : ∃ W2, W1.setCell ⟨w.heap.size, 3, none⟩ (.int .i64 (ai + rb)) = W2 := ⟨_, rfl⟩
    have hk2 : Keep (· = w.heap.size) W1 W2 := by rw [← hW2]; exact (Keep.refl _ _).set1 3 _
    have ha2 : Blk W2 w.heap.size TCOMP _ := hW2 ▸ HA1.out.set_ 3 (.int .i64 (ai + rb))
    obtain ⟨c0, c1, c2, c3', c4', c5, c6, c7, c8, c9, c10, c11⟩ := blk12 ha2
    have HE2 := hid (HE1.out.trans hk2 fun q hq e => by omega)
    clear hk2 ha2
    go_wp2
    go_ret
    rw [HR.out]
    exact text_one _ _ _ _ _ _ _ _ _ _ HE2.out rfl
  · by_cases h2 : ai + an ≤ bi
    · have HR := hid (show splitL ai an bi rb = [(ai, an)] from by unfold splitL; rw [if_neg (by omega), if_pos (by omega)])
      generalize splitL ai an bi rb = R at *
      go_wp2
      go_ret
      rw [HR.out]
      exact text_one _ _ _ _ _ _ _ _ _ _ HE1.out rfl
    · have HR := hid (show splitL ai an bi rb = [(ai, bi - ai), (ai + rb, an - (bi - ai))] from by unfold splitL; rw [if_neg (by omega), if_neg (by omega)])
      generalize splitL ai an bi rb = R at *
      obtain ⟨Wc, hWc⟩ : ∃ Wc, W1.alloc (.cells #[.int .u8 k.toNat, .slice pA pn pc, .string key, .int .i64 (ai), .int .i64 j, .int .i64 (an), .int .u8 y0.toNat, .int .i64 y1, .string y2, .slice A3 n3 c3, .slice A4 n4 c4, .string s] TCOMP) = Wc := ⟨_, rfl⟩
      have hEc : Ext W1 Wc := by rw [← hWc]; exact (Keep.refl _ _).alloc _
      have hc : Blk Wc W1.heap.size TCOMP #[U8 k, .slice pA pn pc, .string key, .int .i64 (ai), .int .i64 j, .int .i64 (an), U8 y0, .int .i64 y1, .string y2, .slice A3 n3 c3, .slice A4 n4 c4, .string s] := by rw [← hWc]; exact Blk.new _ _ _
      have hac := HA1.out.keep hEc id
      obtain ⟨Wd, hWd⟩ : ∃ Wd, Wc.setCell ⟨w.heap.size, 5, none⟩ (.int .i64 (bi - ai)) = Wd := ⟨_, rfl⟩
      have hkd : Keep (· = w.heap.size) Wc Wd := by rw [← hWd]; exact (Keep.refl _ _).set1 5 _
      have had : Blk Wd w.heap.size TCOMP #[U8 k, .slice pA pn pc, .string key, .int .i64 (ai), .int .i64 j, .int .i64 (bi - ai), U8 y0, .int .i64 y1, .string y2, .slice A3 n3 c3, .slice A4 n4 c4, .string s] := hWd ▸ hac.set_ 5 (.int .i64 (bi - ai))
      have hlt := HLT.out
      have hcd := hc.keep hkd (by omega)
      obtain ⟨We, hWe⟩ : ∃ We, Wd.setCell ⟨W1.heap.size, 5, none⟩ (.int .i64 (an - (bi - ai))) = We := ⟨_, rfl⟩
      have hke : Keep (· = W1.heap.size) Wd We := by rw [← hWe]; exact (Keep.refl _ _).set1 5 _
      have hce : Blk We W1.heap.size TCOMP #[U8 k, .slice pA pn pc, .string key, .int .i64 (ai), .int .i64 j, .int .i64 (an - (bi - ai)), U8 y0, .int .i64 y1, .string y2, .slice A3 n3 c3, .slice A4 n4 c4, .string s] := hWe ▸ hcd.set_ 5 (.int .i64 (an - (bi - ai)))
      have hae := had.keep hke (by omega)
      obtain ⟨Wf, hWf⟩ : ∃ Wf, We.setCell ⟨W1.heap.size, 3, none⟩ (.int .i64 (ai + rb)) = Wf := ⟨_, rfl⟩
      have hkf : Keep (· = W1.heap.size) We Wf := by rw [← hWf]; exact (Keep.refl _ _).set1 3 _
      have hcf : Blk Wf W1.heap.size TCOMP #[U8 k, .slice pA pn pc, .string key, .int .i64 (ai + rb), .int .i64 j, .int .i64 (an - (bi - ai)), U8 y0, .int .i64 y1, .string y2, .slice A3 n3 c3, .slice A4 n4 c4, .string s] := hWf ▸ hce.set_ 3 (.int .i64 (ai + rb))
      have haf := hae.keep hkf (by omega)
      have HEF := hid ((HE1.out.ext hEc).trans (((hkd.mono (G := fun q => q = w.heap.size ∨ q = W1.heap.size) fun _ _ h => .inl h).trans hke fun _ _ h => .inr h).trans hkf fun _ _ h => .inr h) fun q hq e => by have := HE1.out.size; omega)
      have x5 := hac.cell 5
      have x3 := hac.cell 3
      have g5 := hac.frozen 5
      have x5' := had.cell 5
      have y5 := hcd.cell 5
      have gy5 := hcd.frozen 5
      have y3 := hce.cell 3
      have gy3 := hce.frozen 3
      have b3c : Wc.cell? ⟨w.heap.size + 1, 3, none⟩ = some (.int .i64 bi) := (hEc.cell (lt_of_cell b3) id).trans b3
      simp only [List.getElem?_toArray, List.getElem?_cons_succ, List.getElem?_cons_zero] at x5 x3 x5' y5 y3
      obtain ⟨c0, c1, c2, c3', c4', c5, c6, c7, c8, c9, c10, c11⟩ := blk12 haf
      obtain ⟨d0, d1, d2, d3, d4, d5, d6, d7, d8, d9, d10, d11⟩ := blk12 hcf
      clear hEc hc hac hkd had hcd hke hce hae hkf hcf haf
      go_wp2
      go_ret
      rw [HR.out]
      exact text_two _ _ _ _ _ _ _ _ _ _ HEF.out rfl
end Go.Proofs.YtioplgfopillnaaDoor

/- The reference's Turn of texts by contract. -/
set_option linter.unusedSimpArgs false
set_option linter.unusedVariables false
namespace Go.Proofs.YtioplgfopillnaaDoor
open Go.RowKit
set_option linter.unusedVariables false

set_option maxRecDepth 100000 in
set_option maxHeartbeats 6400000 in
theorem rturn_text (ak : UInt8) (pA : Option Addr) (pn pc : Nat) (key : ByteArray) (j : Int) (y0 : UInt8) (y1 : Int) (y2 : ByteArray) (A3 : Option Addr) (n3 c3 : Nat) (A4 : Option Addr) (n4 c4 : Nat) (s : ByteArray) (bk : UInt8) (p' key' j' u0 u1 u2 u3 u4 : Value) (bs : ByteArray) (ai an bi bn : Int) (left : Bool) (hai : Tm ai) (han : Tm an) (hbi : Tm bi) (hbn : Tm bn) (hbs : bs.size ≤ 100000) (w : World) (hD : DecAny w) :
    Calls Tryd.prog 36 #[tcV (U8 ak) (.slice pA pn pc) (.string key) ai (.int .i64 j) an (U8 y0) (.int .i64 y1) (.string y2) (.slice A3 n3 c3) (.slice A4 n4 c4) (.string s), tcV (U8 bk) p' key' bi j' bn u0 u1 u2 u3 u4 (.string bs), .bool left] w
      (TextIs (U8 ak) (.slice pA pn pc) (.string key) (.int .i64 j) (U8 y0) (.int .i64 y1) (.string y2) (.slice A3 n3 c3) (.slice A4 n4 c4) (.string s) w (tturn ak ai an bk bi bn (Lib.runeCount bs : Nat) left)) := by
  have HOK := hid (show (ETt (U8 ak) (.slice pA pn pc) (.string key) (.int .i64 j) (U8 y0) (.int .i64 y1) (.string y2) (.slice A3 n3 c3) (.slice A4 n4 c4) (.string s)).Ok from ETt.ok (by intro u hu; simp at hu; rcases hu with rfl | rfl | rfl | rfl | rfl | rfl | rfl | rfl | rfl | rfl <;> rfl))
  obtain ⟨W0, hW0⟩ : ∃ W0, (w.alloc (.cells (tcA (U8 ak) (.slice pA pn pc) (.string key) ai (.int .i64 j) an (U8 y0) (.int .i64 y1) (.string y2) (.slice A3 n3 c3) (.slice A4 n4 c4) (.string s)) TCOMP)).alloc (.cells (tcA (U8 bk) p' key' bi j' bn u0 u1 u2 u3 u4 (.string bs)) TCOMP) = W0 := ⟨_, rfl⟩
  have hE0 : Ext w W0 := by rw [← hW0]; exact ((Keep.refl _ _).alloc _).alloc _
  have ha : Blk W0 w.heap.size TCOMP (tcA (U8 ak) (.slice pA pn pc) (.string key) ai (.int .i64 j) an (U8 y0) (.int .i64 y1) (.string y2) (.slice A3 n3 c3) (.slice A4 n4 c4) (.string s)) := by rw [← hW0]; exact (Blk.new w TCOMP _).alloc _
  have hb : Blk W0 (w.heap.size + 1) TCOMP (tcA (U8 bk) p' key' bi j' bn u0 u1 u2 u3 u4 (.string bs)) := by
    have := Blk.new (w.alloc (.cells (tcA (U8 ak) (.slice pA pn pc) (.string key) ai (.int .i64 j) an (U8 y0) (.int .i64 y1) (.string y2) (.slice A3 n3 c3) (.slice A4 n4 c4) (.string s)) TCOMP)) TCOMP (tcA (U8 bk) p' key' bi j' bn u0 u1 u2 u3 u4 (.string bs))
    rw [World.size_alloc] at this
    rw [← hW0]; exact this
  have hrb : Lib.runeCount bs ≤ bs.size := Lib.runeCount_le bs
  generalize hR : tturn ak ai an bk bi bn (Lib.runeCount bs : Nat) left = R
  have HR := hid hR
  have HA := hid ha
  have HB := hid hb
  have HE0 := hid hE0
  have HD := hid (hD.ext hE0)
  obtain ⟨a0, a1, a2, a3, a4, a5, a6, a7, a8, a9, a10, a11⟩ := blk12 ha
  obtain ⟨b0, b1, b2, b3, b4, b5, b6, b7, b8, b9, b10, b11⟩ := blk12 hb
  have f3 := ha.frozen 3
  clear ha hb hE0 hR hD
  have HAI := hid hai
  have HAN := hid han
  have HBI := hid hbi
  have HBN := hid hbn
  obtain ⟨hai1, hai2⟩ := hai
  obtain ⟨han1, han2⟩ := han
  obtain ⟨hbi1, hbi2⟩ := hbi
  obtain ⟨hbn1, hbn2⟩ := hbn
  have hno : tknown ak = false ∨ tknown bk = false ∨ ((ak = 8 ∨ ak = 9) ∧ (bk = 8 ∨ bk = 9)) := by
    rcases tkind_cases ak with h | h | ⟨h, _⟩
    · rcases tkind_cases bk with h' | h' | ⟨h', _⟩
      · exact .inr (.inr ⟨.inl h, .inl h'⟩)
      · exact .inr (.inr ⟨.inl h, .inr h'⟩)
      · exact .inr (.inl h')
    · rcases tkind_cases bk with h' | h' | ⟨h', _⟩
      · exact .inr (.inr ⟨.inr h, .inl h'⟩)
      · exact .inr (.inr ⟨.inr h, .inr h'⟩)
      · exact .inr (.inl h')
    · exact .inl h
  have hq : ∀ k, tknown k = false → ((k.toNat : Int) == 8) = false ∧ ((k.toNat : Int) == 9) = false := fun k hk => by
    rcases tkind_cases k with rfl | rfl | ⟨_, h8, h9⟩
    · cases hk
    · cases hk
    · exact ⟨h8, h9⟩
  rcases hno with hka | hkb | ⟨h8a, h8b⟩
  · have HRR := hid (show R = [(ai, an)] from by rw [← HR.out]; unfold tturn; rw [if_pos (.inl hka)])
    obtain ⟨k8, k9⟩ := hq ak hka
    have hkk : (((bk.toNat : Int) == 8) = true) ∨ (((bk.toNat : Int) == 8) = false ∧ ((bk.toNat : Int) == 9) = true) ∨ (((bk.toNat : Int) == 8) = false ∧ ((bk.toNat : Int) == 9) = false) := by
      rcases tkind_cases bk with rfl | rfl | ⟨_, h8, h9⟩
      · exact .inl rfl
      · exact .inr (.inl ⟨rfl, rfl⟩)
      · exact .inr (.inr ⟨h8, h9⟩)
    clear hq hka HR
    rcases hkk with q8 | ⟨q8, q9⟩ | ⟨q8, q9⟩
    all_goals
      go_enter Tryd.func36, Tryd.ntmps36
      go_wp2
      go_ret
      rw [HRR.out]
      exact text_one _ _ _ _ _ _ _ _ _ _ HE0.out rfl
  · have HRR := hid (show R = [(ai, an)] from by rw [← HR.out]; unfold tturn; rw [if_pos (.inr hkb)])
    obtain ⟨k8, k9⟩ := hq bk hkb
    have hkk : (((ak.toNat : Int) == 8) = true) ∨ (((ak.toNat : Int) == 8) = false ∧ ((ak.toNat : Int) == 9) = true) ∨ (((ak.toNat : Int) == 8) = false ∧ ((ak.toNat : Int) == 9) = false) := by
      rcases tkind_cases ak with rfl | rfl | ⟨_, h8, h9⟩
      · exact .inl rfl
      · exact .inr (.inl ⟨rfl, rfl⟩)
      · exact .inr (.inr ⟨h8, h9⟩)
    clear hq hkb HR
    rcases hkk with q8 | ⟨q8, q9⟩ | ⟨q8, q9⟩
    all_goals
      go_enter Tryd.func36, Tryd.ntmps36
      go_wp2
      go_ret
      rw [HRR.out]
      exact text_one _ _ _ _ _ _ _ _ _ _ HE0.out rfl
  have hno : ¬ (tknown ak = false ∨ tknown bk = false) := by
    rintro (h | h)
    · rcases h8a with rfl | rfl <;> cases h
    · rcases h8b with rfl | rfl <;> cases h
  have HNO := hid hno
  clear hq hno
  rcases h8a with rfl | rfl
  · have HRR := hid (show R = [(shiftL ai bk bi bn (Lib.runeCount bs : Nat) left, an)] from by rw [← HR.out]; unfold tturn; rw [if_neg HNO.out, if_pos rfl])
    clear HNO HR
    rcases h8b with rfl | rfl
    · by_cases hm : bi < ai ∨ (bi = ai ∧ left = false)
      · have HSH := hid (show shiftL ai 8 bi bn (Lib.runeCount bs : Nat) left = ai + (Lib.runeCount bs : Nat) from by unfold shiftL; rw [if_pos rfl, if_pos hm])
        have hmm : bi < ai ∨ (¬ bi < ai ∧ (bi == ai) = true ∧ left = false) := by
          rcases hm with h | ⟨h1, h2⟩
          · exact .inl h
          · exact .inr ⟨by omega, by simpa using h1, h2⟩
        have HLEN := hid (fun (w' : World) (h : Ext W0 w') => rlen_any bs hbs w' (HD.out.ext h))
        obtain ⟨rb, hr⟩ : ∃ rb : Nat, Lib.runeCount bs = rb := ⟨_, rfl⟩
        rw [hr] at hrb HSH HRR
        have HRB := hid hr
        clear hm hr
        rcases hmm with hm | ⟨hm1, hm2, rfl⟩
        all_goals
          go_enter Tryd.func36, Tryd.ntmps36
          go_wp2_with fail
          refine wp_region_parts [0, 2] [1, 3, 4, 5] [6, 7] (specOf [(4, fun v w => v = .int .i64 (rb : Nat))]) (fun w' => Ext W0 w') (stable_cons (fun v w w' h he => h) stable_nil) (stableC_ext _) (by kernel_rfl) (by kernel_rfl) (Keep.drew (Keep.refl _ _)) ?_
          iterate 2
            (try simp only [Act.put, List.setIfInBounds_toArray, List.set_cons_zero, List.set_cons_succ])
            refine pure_run rfl rfl ?_
            apply Exists.intro
            refine ⟨fun w' => ?_, ?_⟩
            · go_simp
              rfl
          refine pure_nil ?_
          iterate 2
            (try simp only [Act.put, List.setIfInBounds_toArray, List.set_cons_zero, List.set_cons_succ])
            refine growP_run rfl rfl rfl ?_
            apply Exists.intro
            refine ⟨fun w' hC hK => ?_, ?_⟩
            · have a3 := (hC.cell (lt_of_cell a3) id).trans a3
              have b11 := (hC.cell (lt_of_cell b11) id).trans b11
              go_simp
              rfl
          (try simp only [Act.put, List.setIfInBounds_toArray, List.set_cons_zero, List.set_cons_succ])
          refine growP_eff rfl rfl rfl (fun w' hC hK => ?_) (fun v4 hv4 => ?_)
          · unfold growAt
            go_simp
            refine grow_call ((HLEN.out w' hC).mono ?_)
            rintro e w'' ⟨rfl, h1⟩
            exact ⟨_, rfl, h1, by rw [HRB.out]⟩
          obtain ⟨_, _, rfl⟩ := hv4.head
          clear hv4
          iterate 1
            (try simp only [Act.put, List.setIfInBounds_toArray, List.set_cons_zero, List.set_cons_succ])
            refine growP_run rfl rfl rfl ?_
            apply Exists.intro
            refine ⟨fun w' hC hK => ?_, ?_⟩
            · go_simp
              rfl
          refine growP_nil fun W1 hC hK => ?_
          have hC : Ext W0 W1 := hC
          have hA1 := HA.out.keep hC id
          have q3 := hA1.cell 3
          have g3 := hA1.frozen 3
          simp only [List.getElem?_toArray, List.getElem?_cons_succ, List.getElem?_cons_zero] at q3
          obtain ⟨W2, hW2⟩ : ∃ W2, W1.setCell ⟨w.heap.size, 3, none⟩ (.int .i64 (ai + rb)) = W2 := ⟨_, rfl⟩
          have hk2 : Keep (· = w.heap.size) W1 W2 := by rw [← hW2]; exact (Keep.refl _ _).set1 3 _
          have ha2 : Blk W2 w.heap.size TCOMP _ := hW2 ▸ hA1.set_ 3 (.int .i64 (ai + rb))
          have HE2 := hid ((HE0.out.ext hC).trans hk2 fun q hq e => by omega)
          clear a0 a1 a2 a3 a4 a5 a6 a7 a8 a9 a10 a11 b0 b1 b2 b3 b4 b5 b6 b7 b8 b9 b10 b11 f3 hC hK hA1 hk2 hW0
          obtain ⟨c0, c1, c2, c3', c4', c5, c6, c7, c8, c9, c10, c11⟩ := blk12 ha2
          clear ha2
          change wpList _ _ _ (_ :: _ :: []) _ _
          (try simp only [Act.put, List.setIfInBounds_toArray, List.set_cons_zero, List.set_cons_succ])
          go_wp2_with fail
          refine NoPanic.normal ?_
          go_wp2
          go_ret
          rw [HRR.out, HSH.out]
          exact text_one _ _ _ _ _ _ _ _ _ _ HE2.out rfl
      · have HSH := hid (show shiftL ai 8 bi bn (Lib.runeCount bs : Nat) left = ai from by unfold shiftL; rw [if_pos rfl, if_neg hm])
        have hmm : (¬ bi < ai ∧ (bi == ai) = false) ∨ (¬ bi < ai ∧ (bi == ai) = true ∧ left = true) := by
          by_cases h : bi = ai
          · refine .inr ⟨by omega, by simpa using h, ?_⟩
            cases left
            · exact absurd (.inr ⟨h, rfl⟩) hm
            · rfl
          · refine .inl ⟨fun h' => hm (.inl h'), by simpa using h⟩
        clear hm
        rcases hmm with ⟨hm1, hm2⟩ | ⟨hm1, hm2, rfl⟩
        all_goals
          go_enter Tryd.func36, Tryd.ntmps36
          go_wp2
          go_ret
          rw [HRR.out, HSH.out]
          exact text_one _ _ _ _ _ _ _ _ _ _ HE0.out rfl
    · have HSH := hid (show shiftL ai 9 bi bn (Lib.runeCount bs : Nat) left = if bi + bn ≤ ai then ai - bn else if bi < ai then bi else ai from by unfold shiftL; rw [if_neg (by decide)])
      by_cases hc1 : bi + bn ≤ ai
      · have HSS := hid (show shiftL ai 9 bi bn (Lib.runeCount bs : Nat) left = ai - bn from by rw [HSH.out, if_pos hc1])
        obtain ⟨W2, hW2⟩ : ∃ W2, W0.setCell ⟨w.heap.size, 3, none⟩ (.int .i64 (ai - bn)) = W2 := ⟨_, rfl⟩
        have hk2 : Keep (· = w.heap.size) W0 W2 := by rw [← hW2]; exact (Keep.refl _ _).set1 3 _
        have ha2 : Blk W2 w.heap.size TCOMP _ := hW2 ▸ HA.out.set_ 3 (.int .i64 (ai - bn))
        obtain ⟨c0, c1, c2, c3', c4', c5, c6, c7, c8, c9, c10, c11⟩ := blk12 ha2
        have HE2 := hid (HE0.out.trans hk2 fun q hq e => by omega)
        clear hk2 ha2
        clear HSH
        go_enter Tryd.func36, Tryd.ntmps36
        go_wp2
        go_ret
        rw [HRR.out, HSS.out]
        exact text_one _ _ _ _ _ _ _ _ _ _ HE2.out rfl
      · by_cases hc2 : bi < ai
        · have HSS := hid (show shiftL ai 9 bi bn (Lib.runeCount bs : Nat) left = bi from by rw [HSH.out, if_neg hc1, if_pos hc2])
          obtain ⟨W2, hW2⟩ : ∃ W2, W0.setCell ⟨w.heap.size, 3, none⟩ (.int .i64 (bi)) = W2 := ⟨_, rfl⟩
          have hk2 : Keep (· = w.heap.size) W0 W2 := by rw [← hW2]; exact (Keep.refl _ _).set1 3 _
          have ha2 : Blk W2 w.heap.size TCOMP _ := hW2 ▸ HA.out.set_ 3 (.int .i64 (bi))
          obtain ⟨c0, c1, c2, c3', c4', c5, c6, c7, c8, c9, c10, c11⟩ := blk12 ha2
          have HE2 := hid (HE0.out.trans hk2 fun q hq e => by omega)
          clear hk2 ha2
          clear HSH
          go_enter Tryd.func36, Tryd.ntmps36
          go_wp2
          go_ret
          rw [HRR.out, HSS.out]
          exact text_one _ _ _ _ _ _ _ _ _ _ HE2.out rfl
        · have HSS := hid (show shiftL ai 9 bi bn (Lib.runeCount bs : Nat) left = ai from by rw [HSH.out, if_neg hc1, if_neg hc2])
          clear HSH
          go_enter Tryd.func36, Tryd.ntmps36
          go_wp2
          go_ret
          rw [HRR.out, HSS.out]
          exact text_one _ _ _ _ _ _ _ _ _ _ HE0.out rfl
  · rcases h8b with rfl | rfl
    · have HRR := hid (show R = splitL ai an bi (Lib.runeCount bs : Nat) from by rw [← HR.out]; unfold tturn; rw [if_neg HNO.out, if_neg (by decide), if_pos rfl])
      clear HNO HR
      go_enter Tryd.func36, Tryd.ntmps36
      go_wp2_with fail
      refine (rsplit_any 9 pA pn pc key j y0 y1 y2 A3 n3 c3 A4 n4 c4 s 8 p' key' j' u0 u1 u2 u3 u4 bs ai an bi bn HAI.out HAN.out HBI.out hbs W0 HD.out).mono ?_
      rintro e W3 ⟨v, rfl, h1, h2⟩
      obtain ⟨A9, c9, rfl, _⟩ := h1.shape
      have HF := hid (TextIs.from_ ⟨_, rfl, h1, h2⟩ HE0.out HOK.out)
      clear h1 h2
      generalize (splitL ai an bi (Lib.runeCount bs : Nat)).length = q at *
      go_wp2
      go_ret
      rw [HRR.out]
      exact HF.out
    · have HRR := hid (show R = (if (shrinkL ai an bi bn).2 = 0 then [] else [shrinkL ai an bi bn]) from by rw [← HR.out]; unfold tturn; rw [if_neg HNO.out, if_neg (by decide), if_neg (by decide)])
      clear HNO HR
      go_enter Tryd.func36, Tryd.ntmps36
      go_wp2_with fail
      refine (behind_any 9 pA pn pc key j y0 y1 y2 A3 n3 c3 A4 n4 c4 s 9 p' key' j' u0 u1 u2 u3 u4 bs ai an bi bn HAI.out HAN.out HBI.out HBN.out W0).mono ?_
      rintro e W3 ⟨v, rfl, h1, h2⟩
      obtain ⟨A9, c9, rfl, _⟩ := h1.shape
      have HF := hid (TextIs.from_ ⟨_, rfl, h1, h2⟩ HE0.out HOK.out)
      clear h1 h2
      generalize (if (shrinkL ai an bi bn).2 = 0 then ([] : List (Int × Int)) else [shrinkL ai an bi bn]) = R2 at *
      generalize R2.length = q at *
      go_wp2
      go_ret
      rw [HRR.out]
      exact HF.out
end Go.Proofs.YtioplgfopillnaaDoor
