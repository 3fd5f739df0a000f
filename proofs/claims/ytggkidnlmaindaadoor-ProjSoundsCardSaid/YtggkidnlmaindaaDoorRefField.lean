/- The reference's Field, by contract. -/
import Derived.Test.YtggkidnlmaindaaDoorRefCopy
import Derived.Test.YtggkidnlmaindaaDoorGrowThree
set_option linter.unusedSimpArgs false
set_option linter.unusedVariables false
namespace Go.Proofs.YtggkidnlmaindaaDoor
open Go.RowKit
set_option linter.unusedVariables false

set_option maxHeartbeats 1600000 in
theorem rfield_val (w : World) (S : BS) (u : Value) (v : V) (key : ByteArray) (h : VAt w S u v) :
    Calls Tryd.prog 85 #[u, .string key] w fun e w' => e = .returned (.tuple #[.int .i64 (fieldL v.o key : Int), .bool (fieldIs v.o key)]) ∧ Ext w w' := by
  obtain ⟨lv, ov, rfl, hl, ho⟩ := h
  obtain ⟨A, c, rfl, hlc, hcm⟩ := hl.shape
  obtain ⟨A', c', rfl, hlc', hcm'⟩ := ho.shape
  unfold maxLen at hcm'
  have HO := hid ho
  generalize hvo : v.o = vo at *
  generalize v.kind = kk at *
  generalize v.n = nn at *
  generalize v.s = ss at *
  generalize v.l.length = ll at *
  clear hl ho hvo hlc hcm
  have hb1 : Blk (w.alloc (.cells #[U8 kk, .int .i64 nn, .string ss, .slice A ll c, .slice A' vo.length c'] TVAL)) w.heap.size TVAL #[U8 kk, .int .i64 nn, .string ss, .slice A ll c, .slice A' vo.length c'] := Blk.new _ _ _
  have q4 : (w.alloc (.cells #[U8 kk, .int .i64 nn, .string ss, .slice A ll c, .slice A' vo.length c'] TVAL)).cell? ⟨w.heap.size, 4, none⟩ = some (.slice A' vo.length c') := hb1.cell 4
  have hE1 : Ext w (w.alloc (.cells #[U8 kk, .int .i64 nn, .string ss, .slice A ll c, .slice A' vo.length c'] TVAL)) := (Keep.refl _ _).alloc _
  go_enter Tryd.func85, Tryd.ntmps85
  go_wp2_with fail
  generalize w.alloc (.cells #[U8 kk, .int .i64 nn, .string ss, .slice A ll c, .slice A' vo.length c'] TVAL) = w1 at *
  clear hb1
  have HE1 := hid hE1
  have HO1 := hid (HO.out.ext EField.ok hE1)
  clear hE1 HO
  generalize hn : vo.length = n at *
  have HN := hid hn
  clear hn
  go_loop [6] (fun i => ∃ j : Nat, j ≤ n ∧ i = .int .i64 j ∧ (∀ i (hi : i < vo.length), i < j → keyLt vo[i].key key = true)) (fun i => n - (intOf i).toNat)
  case atStart => exact ⟨0, by omega, rfl, fun i _ h => by omega⟩
  case round =>
    obtain ⟨j, hj, rfl, hfl⟩ := hrel
    have HF := hid hfl
    clear hfl
    by_cases hlt : j < n
    · have hjm : j < vo.length := by rw [HN.out]; exact hlt
      obtain ⟨b1, o1, c0, rfl, _, _, hrd, hcell⟩ := HO1.out.at_ EField.ok hjm
      generalize hm : vo[j]'hjm = m at *
      obtain ⟨lv, ov, rfl, ⟨A1, d1, rfl⟩, ⟨A2, d2, rfl⟩, _⟩ := EField_cells hrd
      have e0 := hcell 0 _ rfl
      have hz : EField.size = 6 := rfl
      simp only [hz, Nat.add_zero] at e0
      have HM := hid hm
      clear hz hcell hrd hm
      have hjX : (j : Int) < n := by omega
      cases hp : keyLt m.key key with
      | true =>
        have HP := hid hp
        go_wp2
        go_round
        case rel =>
          refine ⟨j + 1, by omega, by go_num, fun i hi hij => ?_⟩
          rcases Nat.lt_or_ge i j with h | h
          · exact HF.out i hi h
          · obtain rfl : i = j := by omega
            rw [HM.out]; exact HP.out
        case measure => simp [intOf]; omega
      | false =>
        have HP := hid hp
        go_wp2_with fail
        refine wp_region_grow (specOf []) (fun w' => Ext w1 w') stable_nil (stableC_ext _) (by kernel_rfl) (by kernel_rfl) (Keep.drew (Keep.refl _ _)) ?_
        iterate 18
          (try simp only [Act.put, List.setIfInBounds_toArray, List.set_cons_zero, List.set_cons_succ])
          refine grow_run rfl rfl rfl ?_
          apply Exists.intro
          refine ⟨fun w' hC hK => ?_, ?_⟩
          · have q4 := (hC.cell (lt_of_cell q4) id).trans q4
            have e0 := (hC.cell (lt_of_cell e0) id).trans e0
            go_simp
            rfl
        refine grow_nil fun w5 hC _ => ?_
        have HE5 := hid (HE1.out.ext (show Ext w1 w5 from hC))
        have hf := fieldL_at (by omega) HF.out (fun hj' => by rw [HM.out]; exact HP.out)
        have HQ := hid (And.intro hf (fieldIs_some hjm hf))
        clear hC hp hf q4 e0
        go_wp2
        go_ret2
        exact ⟨by rw [HQ.out.2, HQ.out.1, HM.out]; rfl, HE5.out⟩
    · have HJ := hid (show j = n by omega)
      go_wp2_with fail
      refine wp_region_grow (specOf []) (fun w' => Ext w1 w') stable_nil (stableC_ext _) (by kernel_rfl) (by kernel_rfl) (Keep.drew (Keep.refl _ _)) ?_
      iterate 7
        (try simp only [Act.put, List.setIfInBounds_toArray, List.set_cons_zero, List.set_cons_succ])
        refine grow_run rfl rfl rfl ?_
        apply Exists.intro
        refine ⟨fun w' hC hK => ?_, ?_⟩
        · have q4 := (hC.cell (lt_of_cell q4) id).trans q4
          go_simp
          rfl
      iterate 8
        (try simp only [Act.put, List.setIfInBounds_toArray, List.set_cons_zero, List.set_cons_succ])
        with_reducible refine grow_skip ?_ ?_ ?_
        · rfl
        · rfl
      iterate 3
        (try simp only [Act.put, List.setIfInBounds_toArray, List.set_cons_zero, List.set_cons_succ])
        refine grow_run rfl rfl rfl ?_
        apply Exists.intro
        refine ⟨fun w' hC hK => ?_, ?_⟩
        · go_simp
          rfl
      refine grow_nil fun w5 hC _ => ?_
      have HE5 := hid (HE1.out.ext (show Ext w1 w5 from hC))
      have hf := fieldL_at (key := key) (by have := HJ.out; have := HN.out; omega) HF.out (fun hj' => by have := HJ.out; have := HN.out; omega)
      have HQ := hid (And.intro hf (fieldIs_none (hf.trans (HJ.out.trans HN.out.symm))))
      clear hC hf q4
      go_wp2
      go_ret2
      exact ⟨by rw [HQ.out.2, HQ.out.1]; rfl, HE5.out⟩

end Go.Proofs.YtggkidnlmaindaaDoor
