/- PathBeg, PathSnd, LawKnown3, LawHeavy3: laid together. -/
import Derived.Test.YtioplgfopillnaaApB13
import Derived.Test.YtioplgfopillnaaApB15
import Derived.Test.YtioplgfopillnaaApB9
import Derived.Laws.Strings
import Derived.Test.YtioplgfopillnaaApB14
import Derived.Test.YtioplgfopillnaaApB6
import Derived.Test.YtioplgfopillnaaApB3
/- path.Begins, by contract. -/
set_option linter.unusedSimpArgs false
set_option linter.unusedVariables false
namespace Go.Proofs.Ytioplgfopillnaa
open Go.RowKit
set_option linter.unusedVariables false

set_option maxHeartbeats 1600000 in
theorem equal_st (w : World) (S S2 : BS) (v u : Value) (p q : List St) (h : Sl ESt w S v p) (h2 : Sl ESt w S2 u q) :
    Calls Try.prog 33 #[v, u] w fun e w' => ((e = .returned (.bool true) ∧ p = q) ∨ (e = .returned (.bool false) ∧ p ≠ q)) ∧ Ext w w' := by
  obtain ⟨A, c, rfl, hlc, hcm⟩ := h.shape
  obtain ⟨A2, c2, rfl, hlc2, hcm2⟩ := h2.shape
  unfold maxLen at hcm hcm2
  have HA := hid h
  have HB := hid h2
  clear h h2
  by_cases hlen : p.length = q.length
  · have HLEN := hid hlen
    have hlenX : ((p.length : Int) != q.length) = false := by rw [hlen]; simp
    go_enter Try.func33, Try.ntmps33
    clear hlen
    go_wp2
    clear hlenX
    go_loopw [13] (fun i wr => ∃ j : Nat, j ≤ p.length ∧ i = .int .i64 j ∧ p.take j = q.take j ∧ Ext w wr) (fun i _ => p.length - (intOf i).toNat)
    case atStart => exact ⟨0, by omega, rfl, rfl, Keep.refl _ _⟩
    case round =>
      obtain ⟨j, hj, rfl, hpq, hE⟩ := hrel
      have HPQ := hid hpq
      clear hpq
      by_cases hlt : j < p.length
      · have hlt2 : j < q.length := by have := HLEN.out; omega
        obtain ⟨b1, o1, c0, rfl, _, _, hrd, hcell⟩ := (HA.out.ext ESt.ok hE).at_ ESt.ok hlt
        obtain ⟨b2, o2, c3, rfl, _, _, hrd2, hcell2⟩ := (HB.out.ext ESt.ok hE).at_ ESt.ok hlt2
        have HN := hid (And.intro (take_succ_get p j hlt) (take_succ_get q j hlt2))
        have HD := hid (fun (e : p = q) => (show p[j] = q[j] from by subst e; rfl))
        generalize p[j] = s at *
        generalize q[j] = t at *
        obtain rfl : c0 = [.bool s.list, .int .i64 s.i, .string s.key] := hrd
        obtain rfl : c3 = [.bool t.list, .int .i64 t.i, .string t.key] := hrd2
        have e0 := hcell 0 _ rfl
        have e1 := hcell 1 _ rfl
        have e2 := hcell 2 _ rfl
        have d0 := hcell2 0 _ rfl
        have d1 := hcell2 1 _ rfl
        have d2 := hcell2 2 _ rfl
        have hz : ESt.size = 3 := rfl
        simp only [hz, Nat.add_zero] at e0 e1 e2 d0 d1 d2
        have HE := hid hE
        clear hz hcell hcell2 hE
        by_cases g1 : s.list = t.list
        · by_cases g2 : s.i = t.i
          · by_cases g3 : s.key.toList = t.key.toList
            · have HST := hid (show s = t from by
                cases s; cases t
                simp only at g1 g2 g3
                rw [g1, g2, key_eq g3])
              go_wp2_with fail
              refine wp_region_grow (specOf []) (fun w' => Ext wr w') stable_nil (stableC_ext _) (by kernel_rfl) (by kernel_rfl) (Keep.drew (Keep.refl _ _)) ?_
              iterate 9
                (try simp only [Act.put, List.setIfInBounds_toArray, List.set_cons_zero, List.set_cons_succ])
                refine grow_run rfl rfl rfl ?_
                apply Exists.intro
                refine ⟨fun w' hC hK => ?_, ?_⟩
                · have e0 := (hC.cell (lt_of_cell e0) id).trans e0
                  have e1 := (hC.cell (lt_of_cell e1) id).trans e1
                  have e2 := (hC.cell (lt_of_cell e2) id).trans e2
                  have d0 := (hC.cell (lt_of_cell d0) id).trans d0
                  have d1 := (hC.cell (lt_of_cell d1) id).trans d1
                  have d2 := (hC.cell (lt_of_cell d2) id).trans d2
                  go_simp
                  rfl
              refine grow_nil fun w5 hC _ => ?_
              have HE5 := hid (HE.out.ext (show Ext wr w5 from hC))
              clear hC e0 e1 e2 d0 d1 d2
              go_wp2
              go_roundw
              case rel => exact ⟨j + 1, by omega, by go_num, by rw [HN.out.1, HN.out.2, HPQ.out, HST.out], HE5.out⟩
              case measure => simp [intOf]; omega
            · have HNE := hid (show s ≠ t from fun e => g3 (by rw [e]))
              go_wp2_with fail
              refine wp_region_grow (specOf []) (fun w' => Ext wr w') stable_nil (stableC_ext _) (by kernel_rfl) (by kernel_rfl) (Keep.drew (Keep.refl _ _)) ?_
              iterate 9
                (try simp only [Act.put, List.setIfInBounds_toArray, List.set_cons_zero, List.set_cons_succ])
                refine grow_run rfl rfl rfl ?_
                apply Exists.intro
                refine ⟨fun w' hC hK => ?_, ?_⟩
                · have e0 := (hC.cell (lt_of_cell e0) id).trans e0
                  have e1 := (hC.cell (lt_of_cell e1) id).trans e1
                  have e2 := (hC.cell (lt_of_cell e2) id).trans e2
                  have d0 := (hC.cell (lt_of_cell d0) id).trans d0
                  have d1 := (hC.cell (lt_of_cell d1) id).trans d1
                  have d2 := (hC.cell (lt_of_cell d2) id).trans d2
                  go_simp
                  rfl
              refine grow_nil fun w5 hC _ => ?_
              have HE5 := hid (HE.out.ext (show Ext wr w5 from hC))
              clear hC e0 e1 e2 d0 d1 d2
              go_wp2
              go_ret
              exact ⟨.inr ⟨rfl, fun e => HNE.out (HD.out e)⟩, HE5.out⟩
          · have HNE := hid (show s ≠ t from fun e => g2 (by rw [e]))
            go_wp2_with fail
            refine wp_region_grow (specOf []) (fun w' => Ext wr w') stable_nil (stableC_ext _) (by kernel_rfl) (by kernel_rfl) (Keep.drew (Keep.refl _ _)) ?_
            iterate 9
              (try simp only [Act.put, List.setIfInBounds_toArray, List.set_cons_zero, List.set_cons_succ])
              refine grow_run rfl rfl rfl ?_
              apply Exists.intro
              refine ⟨fun w' hC hK => ?_, ?_⟩
              · have e0 := (hC.cell (lt_of_cell e0) id).trans e0
                have e1 := (hC.cell (lt_of_cell e1) id).trans e1
                have e2 := (hC.cell (lt_of_cell e2) id).trans e2
                have d0 := (hC.cell (lt_of_cell d0) id).trans d0
                have d1 := (hC.cell (lt_of_cell d1) id).trans d1
                have d2 := (hC.cell (lt_of_cell d2) id).trans d2
                go_simp
                rfl
            refine grow_nil fun w5 hC _ => ?_
            have HE5 := hid (HE.out.ext (show Ext wr w5 from hC))
            clear hC e0 e1 e2 d0 d1 d2
            go_wp2
            go_ret
            exact ⟨.inr ⟨rfl, fun e => HNE.out (HD.out e)⟩, HE5.out⟩
        · have HNE := hid (show s ≠ t from fun e => g1 (by rw [e]))
          go_wp2_with fail
          refine wp_region_grow (specOf []) (fun w' => Ext wr w') stable_nil (stableC_ext _) (by kernel_rfl) (by kernel_rfl) (Keep.drew (Keep.refl _ _)) ?_
          iterate 9
            (try simp only [Act.put, List.setIfInBounds_toArray, List.set_cons_zero, List.set_cons_succ])
            refine grow_run rfl rfl rfl ?_
            apply Exists.intro
            refine ⟨fun w' hC hK => ?_, ?_⟩
            · have e0 := (hC.cell (lt_of_cell e0) id).trans e0
              have e1 := (hC.cell (lt_of_cell e1) id).trans e1
              have e2 := (hC.cell (lt_of_cell e2) id).trans e2
              have d0 := (hC.cell (lt_of_cell d0) id).trans d0
              have d1 := (hC.cell (lt_of_cell d1) id).trans d1
              have d2 := (hC.cell (lt_of_cell d2) id).trans d2
              go_simp
              rfl
          refine grow_nil fun w5 hC _ => ?_
          have HE5 := hid (HE.out.ext (show Ext wr w5 from hC))
          clear hC e0 e1 e2 d0 d1 d2
          go_wp2
          go_ret
          exact ⟨.inr ⟨rfl, fun e => HNE.out (HD.out e)⟩, HE5.out⟩
      · obtain rfl : j = p.length := by omega
        have HE := hid hE
        clear hE
        go_wp2
        go_ret
        refine ⟨.inl ⟨rfl, ?_⟩, HE.out⟩
        have := HPQ.out
        rw [List.take_length, HLEN.out, List.take_length] at this
        exact this
  · have hlenX : ((p.length : Int) != q.length) = true := by simp; omega
    have HNE := hid (show p ≠ q from fun e => hlen (by rw [e]))
    clear hlen
    go_enter Try.func33, Try.ntmps33
    go_wp2
    go_ret
    exact ⟨.inr ⟨rfl, HNE.out⟩, Keep.refl _ _⟩

/-- Begins. -/
def BegIs (p q : List St) (w : World) (e : Ending) (w' : World) : Prop := ((e = .returned (.bool true) ∧ q <+: p) ∨ (e = .returned (.bool false) ∧ ¬ q <+: p)) ∧ Ext w w'
set_option maxHeartbeats 1600000 in
theorem begins_ok (w : World) (S S2 : BS) (v u : Value) (p q : List St) (h : Sl ESt w S v p) (h2 : Sl ESt w S2 u q) :
    Calls Try.prog 19 #[v, u] w (BegIs p q w) := by
  obtain ⟨A, c, rfl, hlc, hcm⟩ := h.shape
  obtain ⟨A2, c2, rfl, hlc2, hcm2⟩ := h2.shape
  unfold maxLen at hcm hcm2
  by_cases hlen : q.length ≤ p.length
  · obtain ⟨r1, f1⟩ := front_fact (P := Try.prog) ESt.ok ty_st h (b := (q.length : Int)) rfl hlen
    have hEQ := equal_st w S S2 _ _ (p.take q.length) q f1 h2
    have HEQ := hid hEQ
    have hlX : (q.length : Int) ≤ p.length := by omega
    have HP := hid (show p.take q.length = q ↔ q <+: p from ⟨fun e => by rw [← e]; exact List.take_prefix _ _, fun h => (List.prefix_iff_eq_take.1 h).symm⟩)
    clear h h2 hEQ f1 hlen
    go_enter Try.func19, Try.ntmps19
    go_wp2_with fail
    refine HEQ.out.mono ?_
    rintro e w2 ⟨⟨rfl, he⟩ | ⟨rfl, he⟩, hE⟩
    · have HR := hid (show BegIs p q w (.returned (.bool true)) w2 from ⟨.inl ⟨rfl, HP.out.1 he⟩, hE⟩)
      clear he hE
      go_wp2
      go_ret
      exact HR.out
    · have HR := hid (show BegIs p q w (.returned (.bool false)) w2 from ⟨.inr ⟨rfl, fun h => he (HP.out.2 h)⟩, hE⟩)
      clear he hE
      go_wp2
      go_ret
      exact HR.out
  · have hlX : ¬ (q.length : Int) ≤ p.length := by omega
    have HR := hid (show BegIs p q w (.returned (.bool false)) w from ⟨.inr ⟨rfl, fun h => hlen h.length_le⟩, Keep.refl _ _⟩)
    clear h h2 hlen
    go_enter Try.func19, Try.ntmps19
    go_wp2
    go_ret
    exact HR.out
end Go.Proofs.Ytioplgfopillnaa

/- path.Sound over a contract of its closure. -/
set_option linter.unusedSimpArgs false
set_option linter.unusedVariables false
namespace Go.Proofs.Ytioplgfopillnaa
open Go.RowKit
set_option linter.unusedVariables false

end Go.Proofs.Ytioplgfopillnaa

/- The law's example of chapter 03. -/
set_option linter.unusedSimpArgs false
set_option linter.unusedVariables false
namespace Go.Proofs.Ytioplgfopillnaa
open Go.RowKit
set_option linter.unusedVariables false

theorem flat_at' (w : World) (S : BS) (k : UInt8) (n : Int) (s : ByteArray) : rdV w S (.mk k n s [] []) [U8 k, .int .i64 n, .string s, .slice none 0 0, .slice none 0 0] := rdV_iff.2 ⟨_, _, rfl, Sl.nil _ _, Sl.nil _ _⟩
abbrev kA : V := .mk 2 1 ⟨#[]⟩ [] []
abbrev kB : V := .mk 2 2 ⟨#[]⟩ [] []
abbrev kL : V := .mk 4 0 ⟨#[]⟩ [kA, kB] []
abbrev kV : V := .mk 5 0 ⟨#[]⟩ [] [.mk ⟨#[97]⟩ kL]
theorem k_field : fieldL kV.o ⟨#[97]⟩ = 0 ∧ fieldIs kV.o ⟨#[97]⟩ = true := by
  have h : fieldL kV.o ⟨#[97]⟩ = 0 := fieldL_at (by simp [V.o]) (fun i hi h => by omega) (fun h => less_irrefl _)
  exact ⟨h, by rw [fieldIs_some (by simp [V.o]) h]; simp [V.o, F.key]⟩
theorem k_step : stepV kV ⟨false, 0, ⟨#[97]⟩⟩ = some (.o 0) := by
  rw [stepV_o rfl, if_pos ⟨rfl, k_field.2⟩, k_field.1]
theorem k_get1 : getV kV [⟨false, 0, ⟨#[97]⟩⟩, ⟨true, 1, ⟨#[]⟩⟩] = some kB := by
  simp only [getV, k_step]
  rfl
theorem k_get2 : getV kV [⟨false, 0, ⟨#[97]⟩⟩, ⟨true, 5, ⟨#[]⟩⟩] = none := by
  simp only [getV, k_step]
  rfl
theorem k_size : kV.size ≤ 1000000 := by simp [V.size, V.sizes, F.sizes, F.size]
abbrev cA : List Value := [.int .u8 2, .int .i64 1, .string ⟨#[]⟩, .slice none 0 0, .slice none 0 0]
abbrev cB : List Value := [.int .u8 2, .int .i64 2, .string ⟨#[]⟩, .slice none 0 0, .slice none 0 0]
theorem k_at (w : World) (b1 : Nat) (h1 : Blk w b1 TVAL #[.int .u8 2, .int .i64 1, .string ⟨#[]⟩, .slice none 0 0, .slice none 0 0, .int .u8 2, .int .i64 2, .string ⟨#[]⟩, .slice none 0 0, .slice none 0 0])
    (b2 : Nat) (h2 : Blk w b2 TFIELD #[.string ⟨#[97]⟩, .int .u8 4, .int .i64 0, .string ⟨#[]⟩, .slice (some ⟨b1, 0, none⟩) 2 2, .slice none 0 0]) :
    VAt w (fun _ => True) (.agg #[.int .u8 5, .int .i64 0, .string ⟨#[]⟩, .slice none 0 0, .slice (some ⟨b2, 0, none⟩) 1 1]) kV := by
  have hA : rdV w (fun _ => True) kA cA := (flat_at' w _ 2 1 ⟨#[]⟩)
  have hB : rdV w (fun _ => True) kB cB := (flat_at' w _ 2 2 ⟨#[]⟩)
  have hl : Sl EVal w (fun _ => True) (.slice (some ⟨b1, 0, none⟩) 2 2) [kA, kB] := ⟨cA ++ (cB ++ []), ⟨rfl, _, 2, rfl, by simp, by simp [maxLen], fun _ => ⟨b1, 0, rfl, trivial, h1.lt, fun j u hu => by rw [Nat.zero_add, h1.cell]; simpa using hu⟩⟩, ⟨_, _, rfl, hA, ⟨_, _, rfl, hB, rfl⟩⟩⟩
  have hL : rdV w (fun _ => True) kL [.int .u8 4, .int .i64 0, .string ⟨#[]⟩, .slice (some ⟨b1, 0, none⟩) 2 2, .slice none 0 0] := rdV_iff.2 ⟨_, _, rfl, hl, Sl.nil _ _⟩
  refine ⟨.slice none 0 0, .slice (some ⟨b2, 0, none⟩) 1 1, rfl, Sl.nil _ _, ⟨_, ⟨rfl, _, 1, rfl, by simp [V.o], by simp [maxLen], fun _ => ⟨b2, 0, rfl, trivial, h2.lt, fun j u hu => by rw [Nat.zero_add, h2.cell]; simpa [F.key] using hu⟩⟩, Cells.single (rdF_iff.2 ⟨_, rfl, hL⟩)⟩⟩

theorem steps_at (w : World) (i : Int) : Sl ESt (w.alloc (.cells #[.bool false, .int .i64 0, .string ⟨#[97]⟩, .bool true, .int .i64 i, .string ⟨#[]⟩] TSTEP)) (fun _ => True) (.slice (some ⟨w.heap.size, 0, none⟩) 2 2) [⟨false, 0, ⟨#[97]⟩⟩, ⟨true, i, ⟨#[]⟩⟩] :=
  ⟨[.bool false, .int .i64 0, .string ⟨#[97]⟩, .bool true, .int .i64 i, .string ⟨#[]⟩], (RowS.new (w := w) (t := TSTEP) (sz := 3) (n := 2) (cs := [.bool false, .int .i64 0, .string ⟨#[97]⟩, .bool true, .int .i64 i, .string ⟨#[]⟩]) rfl (by simp [maxLen]) (0, 0)).more fun _ _ _ => trivial,
    ⟨[.bool false, .int .i64 0, .string ⟨#[97]⟩], [.bool true, .int .i64 i, .string ⟨#[]⟩], rfl, rfl, ⟨[.bool true, .int .i64 i, .string ⟨#[]⟩], [], rfl, rfl, rfl⟩⟩⟩
theorem step_at (w : World) : Sl ESt (w.alloc (.cells #[.bool true, .int .i64 0, .string ⟨#[97]⟩] TSTEP)) (fun _ => True) (.slice (some ⟨w.heap.size, 0, none⟩) 1 1) [⟨true, 0, ⟨#[97]⟩⟩] :=
  ⟨[.bool true, .int .i64 0, .string ⟨#[97]⟩], (RowS.new (w := w) (t := TSTEP) (sz := 3) (n := 1) (cs := [.bool true, .int .i64 0, .string ⟨#[97]⟩]) rfl (by simp [maxLen]) (0, 0)).more fun _ _ _ => trivial, Cells.single rfl⟩
theorem k_world (w : World) : Blk (((w.alloc (.cells #[.int .u8 2, .int .i64 1, .string ⟨#[]⟩, .slice none 0 0, .slice none 0 0, .int .u8 2, .int .i64 2, .string ⟨#[]⟩, .slice none 0 0, .slice none 0 0] TVAL)).alloc (.cells #[.string ⟨#[97]⟩, .int .u8 4, .int .i64 0, .string ⟨#[]⟩, .slice (some ⟨w.heap.size, 0, none⟩) 2 2, .slice none 0 0] TFIELD)).alloc (.cells #[.int .u8 5, .int .i64 0, .string ⟨#[]⟩, .slice none 0 0, .slice (some ⟨w.heap.size + 1, 0, none⟩) 1 1] TVAL)) w.heap.size TVAL #[.int .u8 2, .int .i64 1, .string ⟨#[]⟩, .slice none 0 0, .slice none 0 0, .int .u8 2, .int .i64 2, .string ⟨#[]⟩, .slice none 0 0, .slice none 0 0] ∧ Blk (((w.alloc (.cells #[.int .u8 2, .int .i64 1, .string ⟨#[]⟩, .slice none 0 0, .slice none 0 0, .int .u8 2, .int .i64 2, .string ⟨#[]⟩, .slice none 0 0, .slice none 0 0] TVAL)).alloc (.cells #[.string ⟨#[97]⟩, .int .u8 4, .int .i64 0, .string ⟨#[]⟩, .slice (some ⟨w.heap.size, 0, none⟩) 2 2, .slice none 0 0] TFIELD)).alloc (.cells #[.int .u8 5, .int .i64 0, .string ⟨#[]⟩, .slice none 0 0, .slice (some ⟨w.heap.size + 1, 0, none⟩) 1 1] TVAL)) (w.heap.size + 1) TFIELD #[.string ⟨#[97]⟩, .int .u8 4, .int .i64 0, .string ⟨#[]⟩, .slice (some ⟨w.heap.size, 0, none⟩) 2 2, .slice none 0 0] ∧ Blk (((w.alloc (.cells #[.int .u8 2, .int .i64 1, .string ⟨#[]⟩, .slice none 0 0, .slice none 0 0, .int .u8 2, .int .i64 2, .string ⟨#[]⟩, .slice none 0 0, .slice none 0 0] TVAL)).alloc (.cells #[.string ⟨#[97]⟩, .int .u8 4, .int .i64 0, .string ⟨#[]⟩, .slice (some ⟨w.heap.size, 0, none⟩) 2 2, .slice none 0 0] TFIELD)).alloc (.cells #[.int .u8 5, .int .i64 0, .string ⟨#[]⟩, .slice none 0 0, .slice (some ⟨w.heap.size + 1, 0, none⟩) 1 1] TVAL)) (w.heap.size + 2) TVAL #[.int .u8 5, .int .i64 0, .string ⟨#[]⟩, .slice none 0 0, .slice (some ⟨w.heap.size + 1, 0, none⟩) 1 1] ∧ Ext w (((w.alloc (.cells #[.int .u8 2, .int .i64 1, .string ⟨#[]⟩, .slice none 0 0, .slice none 0 0, .int .u8 2, .int .i64 2, .string ⟨#[]⟩, .slice none 0 0, .slice none 0 0] TVAL)).alloc (.cells #[.string ⟨#[97]⟩, .int .u8 4, .int .i64 0, .string ⟨#[]⟩, .slice (some ⟨w.heap.size, 0, none⟩) 2 2, .slice none 0 0] TFIELD)).alloc (.cells #[.int .u8 5, .int .i64 0, .string ⟨#[]⟩, .slice none 0 0, .slice (some ⟨w.heap.size + 1, 0, none⟩) 1 1] TVAL)) ∧ (((w.alloc (.cells #[.int .u8 2, .int .i64 1, .string ⟨#[]⟩, .slice none 0 0, .slice none 0 0, .int .u8 2, .int .i64 2, .string ⟨#[]⟩, .slice none 0 0, .slice none 0 0] TVAL)).alloc (.cells #[.string ⟨#[97]⟩, .int .u8 4, .int .i64 0, .string ⟨#[]⟩, .slice (some ⟨w.heap.size, 0, none⟩) 2 2, .slice none 0 0] TFIELD)).alloc (.cells #[.int .u8 5, .int .i64 0, .string ⟨#[]⟩, .slice none 0 0, .slice (some ⟨w.heap.size + 1, 0, none⟩) 1 1] TVAL)).heap.size = w.heap.size + 3 := by
  refine ⟨((Blk.new _ _ _).alloc _).alloc _, ?_, ?_, (((Keep.refl _ _).alloc _).alloc _).alloc _, by simp⟩
  · have := (Blk.new (w.alloc (.cells #[.int .u8 2, .int .i64 1, .string ⟨#[]⟩, .slice none 0 0, .slice none 0 0, .int .u8 2, .int .i64 2, .string ⟨#[]⟩, .slice none 0 0, .slice none 0 0] TVAL)) TFIELD #[.string ⟨#[97]⟩, .int .u8 4, .int .i64 0, .string ⟨#[]⟩, .slice (some ⟨w.heap.size, 0, none⟩) 2 2, .slice none 0 0]).alloc (.cells #[.int .u8 5, .int .i64 0, .string ⟨#[]⟩, .slice none 0 0, .slice (some ⟨w.heap.size + 1, 0, none⟩) 1 1] TVAL)
    rwa [World.size_alloc] at this
  · have := Blk.new ((w.alloc (.cells #[.int .u8 2, .int .i64 1, .string ⟨#[]⟩, .slice none 0 0, .slice none 0 0, .int .u8 2, .int .i64 2, .string ⟨#[]⟩, .slice none 0 0, .slice none 0 0] TVAL)).alloc (.cells #[.string ⟨#[97]⟩, .int .u8 4, .int .i64 0, .string ⟨#[]⟩, .slice (some ⟨w.heap.size, 0, none⟩) 2 2, .slice none 0 0] TFIELD)) TVAL #[.int .u8 5, .int .i64 0, .string ⟨#[]⟩, .slice none 0 0, .slice (some ⟨w.heap.size + 1, 0, none⟩) 1 1]
    rwa [World.size_alloc, World.size_alloc] at this
end Go.Proofs.Ytioplgfopillnaa

/- The law's 'heavy' of chapter 03. -/
set_option linter.unusedSimpArgs false
set_option linter.unusedVariables false
namespace Go.Proofs.Ytioplgfopillnaa
open Go.RowKit
set_option linter.unusedVariables false

def HeavyIs (n m : Nat) (w : World) (e : Ending) (w' : World) : Prop := ∃ b : Bool, e = .returned (.bool b) ∧ (b = false → n ≤ 200 ∧ m ≤ 40) ∧ Ext w w'
end Go.Proofs.Ytioplgfopillnaa
