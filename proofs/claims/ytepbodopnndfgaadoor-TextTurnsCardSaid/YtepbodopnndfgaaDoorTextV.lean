/- The reference's Turn of texts by contract. -/
import Derived.Test.YtepbodopnndfgaaDoorTextU
set_option linter.unusedSimpArgs false
set_option linter.unusedVariables false
namespace Go.Proofs.YtepbodopnndfgaaDoor
open Go.RowKit
set_option linter.unusedVariables false

set_option maxRecDepth 100000 in
set_option maxHeartbeats 6400000 in
theorem rturn_text (ak : UInt8) (pA : Option Addr) (pn pc : Nat) (key : ByteArray) (j : Int) (y0 : UInt8) (y1 : Int) (y2 : ByteArray) (A3 : Option Addr) (n3 c3 : Nat) (A4 : Option Addr) (n4 c4 : Nat) (s : ByteArray) (bk : UInt8) (p' key' j' u0 u1 u2 u3 u4 : Value) (bs : ByteArray) (ai an bi bn : Int) (left : Bool) (hai : Tm ai) (han : Tm an) (hbi : Tm bi) (hbn : Tm bn) (hbs : bs.size ≤ 100000) (w : World) (hD : DecAny w) :
    Calls Tryd.prog 10 #[tcV (U8 ak) (.slice pA pn pc) (.string key) ai (.int .i64 j) an (U8 y0) (.int .i64 y1) (.string y2) (.slice A3 n3 c3) (.slice A4 n4 c4) (.string s), tcV (U8 bk) p' key' bi j' bn u0 u1 u2 u3 u4 (.string bs), .bool left] w
      (TextIs (U8 ak) (.slice pA pn pc) (.string key) (.int .i64 j) (U8 y0) (.int .i64 y1) (.string y2) (.slice A3 n3 c3) (.slice A4 n4 c4) (.string s) w (tturn ak ai an bk bi bn (Lib.runeCount bs : Nat) left)) := by
  have HOK := hid (show (ETt (U8 ak) (.slice pA pn pc) (.string key) (.int .i64 j) (U8 y0) (.int .i64 y1) (.string y2) (.slice A3 n3 c3) (.slice A4 n4 c4) (.string s)).Ok from ETt.ok (by intro u hu; simp at hu; rcases hu with rfl | rfl | rfl | rfl | rfl | rfl | rfl | rfl | rfl | rfl <;> rfl))
  obtain ⟨W0, hW0⟩ : ∃ W0, (w.alloc (.cells (tcA (U8 ak) (.slice pA pn pc) (.string key) ai (.int .i64 j) an (U8 y0) (.int .i64 y1) (.string y2) (.slice A3 n3 c3) (.slice A4 n4 c4) (.string s)) TCOMP)).alloc (.cells (tcA (U8 bk) p' key' bi j' bn u0 u1 u2 u3 u4 (.string bs)) TCOMP) = W0 := ⟨_, rfl⟩
  have hE0 : Ext w W0 := by rw [← hW0]; exact ((Keep.refl _ _).alloc _).alloc _
  have ha : Blk W0 w.heap.size TCOMP (tcA (U8 ak) (.slice pA pn pc) (.string key) ai (.int .i64 j) an (U8 y0) (.int .i64 y1) (.string y2) (.slice A3 n3 c3) (.slice A4 n4 c4) (.string s)) := by rw [← hW0]; exact (Blk.new w TCOMP _).alloc _
  have hb : Blk W0 (w.heap.size + 1) TCOMP (tcA (U8 bk) p' key' bi j' bn u0 u1 u2 u3 u4 (.string bs)) := by
    have := Blk.new (w.alloc (.cells (tcA (U8 ak) (.slice pA pn pc) (.string key) ai (.int .i64 j) an (U8 y0) (.int .i64 y1) (.string y2) (.slice A3 n3 c3) (.slice A4 n4 c4) (.string s)) TCOMP)) TCOMP (tcA (U8 bk) p' key' bi j' bn u0 u1 u2 u3 u4 (.string bs))
    rw [World.size_alloc] at this
    rw [← hW0]; exact this
  have hrb : Lib.runeCount bs ≤ bs.size := Lib.runeCount_le bs
  generalize hR : tturn ak ai an bk bi bn (Lib.runeCount bs : Nat) left = R
  have HR := hid hR
  have HA := hid ha
  have HB := hid hb
  have HE0 := hid hE0
  have HD := hid (hD.ext hE0)
  obtain ⟨a0, a1, a2, a3, a4, a5, a6, a7, a8, a9, a10, a11⟩ := blk12 ha
  obtain ⟨b0, b1, b2, b3, b4, b5, b6, b7, b8, b9, b10, b11⟩ := blk12 hb
  have f3 := ha.frozen 3
  clear ha hb hE0 hR hD
  have HAI := hid hai
  have HAN := hid han
  have HBI := hid hbi
  have HBN := hid hbn
  obtain ⟨hai1, hai2⟩ := hai
  obtain ⟨han1, han2⟩ := han
  obtain ⟨hbi1, hbi2⟩ := hbi
  obtain ⟨hbn1, hbn2⟩ := hbn
  have hno : tknown ak = false ∨ tknown bk = false ∨ ((ak = 8 ∨ ak = 9) ∧ (bk = 8 ∨ bk = 9)) := by
    rcases tkind_cases ak with h | h | ⟨h, _⟩
    · rcases tkind_cases bk with h' | h' | ⟨h', _⟩
      · exact .inr (.inr ⟨.inl h, .inl h'⟩)
      · exact .inr (.inr ⟨.inl h, .inr h'⟩)
      · exact .inr (.inl h')
    · rcases tkind_cases bk with h' | h' | ⟨h', _⟩
      · exact .inr (.inr ⟨.inr h, .inl h'⟩)
      · exact .inr (.inr ⟨.inr h, .inr h'⟩)
      · exact .inr (.inl h')
    · exact .inl h
  have hq : ∀ k, tknown k = false → ((k.toNat : Int) == 8) = false ∧ ((k.toNat : Int) == 9) = false := fun k hk => by
    rcases tkind_cases k with rfl | rfl | ⟨_, h8, h9⟩
    · cases hk
    · cases hk
    · exact ⟨h8, h9⟩
  rcases hno with hka | hkb | ⟨h8a, h8b⟩
  · have HRR := hid (show R = [(ai, an)] from by rw [← HR.out]; unfold tturn; rw [if_pos (.inl hka)])
    obtain ⟨k8, k9⟩ := hq ak hka
    have hkk : (((bk.toNat : Int) == 8) = true) ∨ (((bk.toNat : Int) == 8) = false ∧ ((bk.toNat : Int) == 9) = true) ∨ (((bk.toNat : Int) == 8) = false ∧ ((bk.toNat : Int) == 9) = false) := by
      rcases tkind_cases bk with rfl | rfl | ⟨_, h8, h9⟩
      · exact .inl rfl
      · exact .inr (.inl ⟨rfl, rfl⟩)
      · exact .inr (.inr ⟨h8, h9⟩)
    clear hq hka HR
    rcases hkk with q8 | ⟨q8, q9⟩ | ⟨q8, q9⟩
    all_goals
      go_enter Tryd.func10, Tryd.ntmps10
      go_wp2
      go_ret
      rw [HRR.out]
      exact text_one _ _ _ _ _ _ _ _ _ _ HE0.out rfl
  · have HRR := hid (show R = [(ai, an)] from by rw [← HR.out]; unfold tturn; rw [if_pos (.inr hkb)])
    obtain ⟨k8, k9⟩ := hq bk hkb
    have hkk : (((ak.toNat : Int) == 8) = true) ∨ (((ak.toNat : Int) == 8) = false ∧ ((ak.toNat : Int) == 9) = true) ∨ (((ak.toNat : Int) == 8) = false ∧ ((ak.toNat : Int) == 9) = false) := by
      rcases tkind_cases ak with rfl | rfl | ⟨_, h8, h9⟩
      · exact .inl rfl
      · exact .inr (.inl ⟨rfl, rfl⟩)
      · exact .inr (.inr ⟨h8, h9⟩)
    clear hq hkb HR
    rcases hkk with q8 | ⟨q8, q9⟩ | ⟨q8, q9⟩
    all_goals
      go_enter Tryd.func10, Tryd.ntmps10
      go_wp2
      go_ret
      rw [HRR.out]
      exact text_one _ _ _ _ _ _ _ _ _ _ HE0.out rfl
  have hno : ¬ (tknown ak = false ∨ tknown bk = false) := by
    rintro (h | h)
    · rcases h8a with rfl | rfl <;> cases h
    · rcases h8b with rfl | rfl <;> cases h
  have HNO := hid hno
  clear hq hno
  rcases h8a with rfl | rfl
  · have HRR := hid (show R = [(shiftL ai bk bi bn (Lib.runeCount bs : Nat) left, an)] from by rw [← HR.out]; unfold tturn; rw [if_neg HNO.out, if_pos rfl])
    clear HNO HR
    rcases h8b with rfl | rfl
    · by_cases hm : bi < ai ∨ (bi = ai ∧ left = false)
      · have HSH := hid (show shiftL ai 8 bi bn (Lib.runeCount bs : Nat) left = ai + (Lib.runeCount bs : Nat) from by unfold shiftL; rw [if_pos rfl, if_pos hm])
        have hmm : bi < ai ∨ (¬ bi < ai ∧ (bi == ai) = true ∧ left = false) := by
          rcases hm with h | ⟨h1, h2⟩
          · exact .inl h
          · exact .inr ⟨by omega, by simpa using h1, h2⟩
        have HLEN := hid (fun (w' : World) (h : Ext W0 w') => rlen_any bs hbs w' (HD.out.ext h))
        obtain ⟨rb, hr⟩ : ∃ rb : Nat, Lib.runeCount bs = rb := ⟨_, rfl⟩
        rw [hr] at hrb HSH HRR
        have HRB := hid hr
        clear hm hr
        rcases hmm with hm | ⟨hm1, hm2, rfl⟩
        all_goals
          go_enter Tryd.func10, Tryd.ntmps10
          go_wp2_with fail
          refine wp_region_parts [0, 2] [1, 3, 4, 5] [6, 7] (specOf [(4, fun v w => v = .int .i64 (rb : Nat))]) (fun w' => Ext W0 w') (stable_cons (fun v w w' h he => h) stable_nil) (stableC_ext _) (by kernel_rfl) (by kernel_rfl) (Keep.drew (Keep.refl _ _)) ?_
          iterate 2
            (try simp only [Act.put, List.setIfInBounds_toArray, List.set_cons_zero, List.set_cons_succ])
            refine pure_run rfl rfl ?_
            apply Exists.intro
            refine ⟨fun w' => ?_, ?_⟩
            · go_simp
              rfl
          refine pure_nil ?_
          iterate 2
            (try simp only [Act.put, List.setIfInBounds_toArray, List.set_cons_zero, List.set_cons_succ])
            refine growP_run rfl rfl rfl ?_
            apply Exists.intro
            refine ⟨fun w' hC hK => ?_, ?_⟩
            · have a3 := (hC.cell (lt_of_cell a3) id).trans a3
              have b11 := (hC.cell (lt_of_cell b11) id).trans b11
              go_simp
              rfl
          (try simp only [Act.put, List.setIfInBounds_toArray, List.set_cons_zero, List.set_cons_succ])
          refine growP_eff rfl rfl rfl (fun w' hC hK => ?_) (fun v4 hv4 => ?_)
          · unfold growAt
            go_simp
            refine grow_call ((HLEN.out w' hC).mono ?_)
            rintro e w'' ⟨rfl, h1⟩
            exact ⟨_, rfl, h1, by rw [HRB.out]⟩
          obtain ⟨_, _, rfl⟩ := hv4.head
          clear hv4
          iterate 1
            (try simp only [Act.put, List.setIfInBounds_toArray, List.set_cons_zero, List.set_cons_succ])
            refine growP_run rfl rfl rfl ?_
            apply Exists.intro
            refine ⟨fun w' hC hK => ?_, ?_⟩
            · go_simp
              rfl
          refine growP_nil fun W1 hC hK => ?_
          have hC : Ext W0 W1 := hC
          have hA1 := HA.out.keep hC id
          have q3 := hA1.cell 3
          have g3 := hA1.frozen 3
          simp only [List.getElem?_toArray, List.getElem?_cons_succ, List.getElem?_cons_zero] at q3
          obtain ⟨W2, hW2⟩ : ∃ W2, W1.setCell ⟨w.heap.size, 3, none⟩ (.int .i64 (ai + rb)) = W2 := ⟨_, rfl⟩
          have hk2 : Keep (· = w.heap.size) W1 W2 := by rw [← hW2]; exact (Keep.refl _ _).set1 3 _
          have ha2 : Blk W2 w.heap.size TCOMP _ := hW2 ▸ hA1.set_ 3 (.int .i64 (ai + rb))
          have HE2 := hid ((HE0.out.ext hC).trans hk2 fun q hq e => by omega)
          clear a0 a1 a2 a3 a4 a5 a6 a7 a8 a9 a10 a11 b0 b1 b2 b3 b4 b5 b6 b7 b8 b9 b10 b11 f3 hC hK hA1 hk2 hW0
          obtain ⟨c0, c1, c2, c3', c4', c5, c6, c7, c8, c9, c10, c11⟩ := blk12 ha2
          clear ha2
          change wpList _ _ _ (_ :: _ :: []) _ _
          (try simp only [Act.put, List.setIfInBounds_toArray, List.set_cons_zero, List.set_cons_succ])
          go_wp2_with fail
          refine NoPanic.normal ?_
          go_wp2
          go_ret
          rw [HRR.out, HSH.out]
          exact text_one _ _ _ _ _ _ _ _ _ _ HE2.out rfl
      · have HSH := hid (show shiftL ai 8 bi bn (Lib.runeCount bs : Nat) left = ai from by unfold shiftL; rw [if_pos rfl, if_neg hm])
        have hmm : (¬ bi < ai ∧ (bi == ai) = false) ∨ (¬ bi < ai ∧ (bi == ai) = true ∧ left = true) := by
          by_cases h : bi = ai
          · refine .inr ⟨by omega, by simpa using h, ?_⟩
            cases left
            · exact absurd (.inr ⟨h, rfl⟩) hm
            · rfl
          · refine .inl ⟨fun h' => hm (.inl h'), by simpa using h⟩
        clear hm
        rcases hmm with ⟨hm1, hm2⟩ | ⟨hm1, hm2, rfl⟩
        all_goals
          go_enter Tryd.func10, Tryd.ntmps10
          go_wp2
          go_ret
          rw [HRR.out, HSH.out]
          exact text_one _ _ _ _ _ _ _ _ _ _ HE0.out rfl
    · have HSH := hid (show shiftL ai 9 bi bn (Lib.runeCount bs : Nat) left = if bi + bn ≤ ai then ai - bn else if bi < ai then bi else ai from by unfold shiftL; rw [if_neg (by decide)])
      by_cases hc1 : bi + bn ≤ ai
      · have HSS := hid (show shiftL ai 9 bi bn (Lib.runeCount bs : Nat) left = ai - bn from by rw [HSH.out, if_pos hc1])
        obtain ⟨W2, hW2⟩ : ∃ W2, W0.setCell ⟨w.heap.size, 3, none⟩ (.int .i64 (ai - bn)) = W2 := ⟨_, rfl⟩
        have hk2 : Keep (· = w.heap.size) W0 W2 := by rw [← hW2]; exact (Keep.refl _ _).set1 3 _
        have ha2 : Blk W2 w.heap.size TCOMP _ := hW2 ▸ HA.out.set_ 3 (.int .i64 (ai - bn))
        obtain ⟨c0, c1, c2, c3', c4', c5, c6, c7, c8, c9, c10, c11⟩ := blk12 ha2
        have HE2 := hid (HE0.out.trans hk2 fun q hq e => by omega)
        clear hk2 ha2
        clear HSH
        go_enter Tryd.func10, Tryd.ntmps10
        go_wp2
        go_ret
        rw [HRR.out, HSS.out]
        exact text_one _ _ _ _ _ _ _ _ _ _ HE2.out rfl
      · by_cases hc2 : bi < ai
        · have HSS := hid (show shiftL ai 9 bi bn (Lib.runeCount bs : Nat) left = bi from by rw [HSH.out, if_neg hc1, if_pos hc2])
          obtain ⟨W2, hW2⟩ : ∃ W2, W0.setCell ⟨w.heap.size, 3, none⟩ (.int .i64 (bi)) = W2 := ⟨_, rfl⟩
          have hk2 : Keep (· = w.heap.size) W0 W2 := by rw [← hW2]; exact (Keep.refl _ _).set1 3 _
          have ha2 : Blk W2 w.heap.size TCOMP _ := hW2 ▸ HA.out.set_ 3 (.int .i64 (bi))
          obtain ⟨c0, c1, c2, c3', c4', c5, c6, c7, c8, c9, c10, c11⟩ := blk12 ha2
          have HE2 := hid (HE0.out.trans hk2 fun q hq e => by omega)
          clear hk2 ha2
          clear HSH
          go_enter Tryd.func10, Tryd.ntmps10
          go_wp2
          go_ret
          rw [HRR.out, HSS.out]
          exact text_one _ _ _ _ _ _ _ _ _ _ HE2.out rfl
        · have HSS := hid (show shiftL ai 9 bi bn (Lib.runeCount bs : Nat) left = ai from by rw [HSH.out, if_neg hc1, if_neg hc2])
          clear HSH
          go_enter Tryd.func10, Tryd.ntmps10
          go_wp2
          go_ret
          rw [HRR.out, HSS.out]
          exact text_one _ _ _ _ _ _ _ _ _ _ HE0.out rfl
  · rcases h8b with rfl | rfl
    · have HRR := hid (show R = splitL ai an bi (Lib.runeCount bs : Nat) from by rw [← HR.out]; unfold tturn; rw [if_neg HNO.out, if_neg (by decide), if_pos rfl])
      clear HNO HR
      go_enter Tryd.func10, Tryd.ntmps10
      go_wp2_with fail
      refine (rsplit_any 9 pA pn pc key j y0 y1 y2 A3 n3 c3 A4 n4 c4 s 8 p' key' j' u0 u1 u2 u3 u4 bs ai an bi bn HAI.out HAN.out HBI.out hbs W0 HD.out).mono ?_
      rintro e W3 ⟨v, rfl, h1, h2⟩
      obtain ⟨A9, c9, rfl, _⟩ := h1.shape
      have HF := hid (TextIs.from_ ⟨_, rfl, h1, h2⟩ HE0.out HOK.out)
      clear h1 h2
      generalize (splitL ai an bi (Lib.runeCount bs : Nat)).length = q at *
      go_wp2
      go_ret
      rw [HRR.out]
      exact HF.out
    · have HRR := hid (show R = (if (shrinkL ai an bi bn).2 = 0 then [] else [shrinkL ai an bi bn]) from by rw [← HR.out]; unfold tturn; rw [if_neg HNO.out, if_neg (by decide), if_neg (by decide)])
      clear HNO HR
      go_enter Tryd.func10, Tryd.ntmps10
      go_wp2_with fail
      refine (behind_any 9 pA pn pc key j y0 y1 y2 A3 n3 c3 A4 n4 c4 s 9 p' key' j' u0 u1 u2 u3 u4 bs ai an bi bn HAI.out HAN.out HBI.out HBN.out W0).mono ?_
      rintro e W3 ⟨v, rfl, h1, h2⟩
      obtain ⟨A9, c9, rfl, _⟩ := h1.shape
      have HF := hid (TextIs.from_ ⟨_, rfl, h1, h2⟩ HE0.out HOK.out)
      clear h1 h2
      generalize (if (shrinkL ai an bi bn).2 = 0 then ([] : List (Int × Int)) else [shrinkL ai an bi bn]) = R2 at *
      generalize R2.length = q at *
      go_wp2
      go_ret
      rw [HRR.out]
      exact HF.out
end Go.Proofs.YtepbodopnndfgaaDoor
