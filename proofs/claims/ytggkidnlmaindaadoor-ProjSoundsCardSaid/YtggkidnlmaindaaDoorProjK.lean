/- The law's Keys: some of an object's keys, in their order. -/
import Derived.Test.YtggkidnlmaindaaDoorProjG
import Derived.Test.YtggkidnlmaindaaDoorOwnTwo
import Derived.Test.YtggkidnlmaindaaDoorGrowTail
import Derived.Test.YtggkidnlmaindaaDoorPathA
import Derived.Test.YtggkidnlmaindaaDoorRefCopy
set_option linter.unusedSimpArgs false
set_option linter.unusedVariables false
namespace Go.Proofs.YtggkidnlmaindaaDoor
open Go.RowKit
set_option linter.unusedVariables false

theorem ty_strs : TyInfo Tryd.prog 23 9 1 16 := by
  obtain ⟨i, h1, h2, h3, h4⟩ := info_parts (show (Tryd.prog.info? 9).map (fun i => (i.zero, i.size, i.bytes)) = some (some (.string ⟨#[]⟩), 1, 16) from by kernel_rfl)
  exact ⟨Tryd.underlying23, i, _, h1, h2, h3, h4, rfl⟩
def KeysIs (w : World) (o : List F) (e : Ending) (w' : World) : Prop := ∃ v' ks, e = .returned v' ∧ List.Sublist ks ((o.take 16).map F.key) ∧ Sl EStr w' (fun _ => True) v' ks ∧ Ext w w'

set_option maxRecDepth 100000 in
set_option maxHeartbeats 3200000 in
theorem keys_ok (w : World) (S : BS) (u : Value) (v : V) (pick : Int) (hv : VAt w S u v) (hp : (Lit.int .u16 pick).wf = true) :
    Calls Tryd.prog 13 #[u, .int .u16 pick] w (KeysIs w v.o) := by
  obtain ⟨lv, ov, rfl, hl, ho⟩ := hv
  obtain ⟨A, c, rfl, hlc, hcm⟩ := hl.shape
  obtain ⟨A', c', rfl, hlc', hcm'⟩ := ho.shape
  unfold maxLen at hcm'
  obtain ⟨W0, hW0⟩ : ∃ W0, w.alloc (.cells #[U8 v.kind, .int .i64 v.n, .string v.s, .slice A v.l.length c, .slice A' v.o.length c'] TVAL) = W0 := ⟨_, rfl⟩
  have hE0 : Ext w W0 := by rw [← hW0]; exact (Keep.refl _ _).alloc _
  have hb0 : Blk W0 w.heap.size TVAL #[U8 v.kind, .int .i64 v.n, .string v.s, .slice A v.l.length c, .slice A' v.o.length c'] := by rw [← hW0]; exact Blk.new _ _ _
  have HO := hid (ho.ext EField.ok hE0)
  have HE0 := hid hE0
  have HB0 := hid hb0
  clear hl ho hE0 hb0 hlc hcm
  generalize hvo : v.o = vo at *
  generalize v.kind = kk at *
  generalize v.n = nn at *
  generalize v.s = ss at *
  generalize v.l.length = ll at *
  clear hvo
  go_enter Tryd.func13, Tryd.ntmps13
  go_wp2_with fail
  clear hW0
  go_loopw [5, 6] (fun x y wr => ∃ (j : Nat) (ks : List ByteArray), j ≤ vo.length ∧ j ≤ 16 ∧ y = .int .i64 j ∧ List.Sublist ks ((vo.take j).map F.key) ∧ Own EStr wr W0.heap.size 9 (fun _ => False) x ks ∧ Ext W0 wr) (fun _ y _ => 16 - (intOf y).toNat)
  case atStart => exact ⟨0, [], by omega, by omega, rfl, List.Sublist.refl _, Own.nil _ _ _ _, Keep.refl _ _⟩
  case round =>
    obtain ⟨j, ks, hj, hj16, rfl, hsub, hown, hr⟩ := hrel
    obtain ⟨A4, c4, rfl, hl4, hc4⟩ := hown.shape
    have x4 := (HB0.out.keep hr id).cell 4
    simp only [List.getElem?_toArray, List.getElem?_cons_succ, List.getElem?_cons_zero] at x4
    have HSB := hid hsub
    have HOW := hid hown
    have HR := hid hr
    by_cases hlt : j < vo.length
    · by_cases h16 : j < 16
      · obtain ⟨b1, f1, d1, rfl, _, _, hr1, hc1⟩ := (HO.out.ext EField.ok hr).at_ EField.ok hlt
        obtain ⟨lv1, ov1, rfl, ⟨D1, g1, rfl⟩, ⟨D2, g2, rfl⟩, hva⟩ := EField_cells hr1
        have p0 := hc1 0 _ rfl
        have e5 : EField.size = 6 := rfl
        simp only [e5, Nat.add_zero] at p0
        have HTS := hid (take_succ_get vo j hlt)
        have hjX : (j : Int) < vo.length := by omega
        have hjY : (j : Int) < 16 := by omega
        clear hsub hown hr hc1 hr1 hva
        generalize vo[j] = y at *
        have hst : Ext wr (wr.alloc (.cells #[.string y.key] 9)) := (Keep.refl _ _).alloc _
        have HOb := hid (HOW.out.ext EStr.ok hst)
        have HRx := hid (RowS.new (w := wr) (t := 9) (sz := 1) (n := 1) (cs := [.string y.key]) rfl (by simp [maxLen]) (0, 0))
        have HDx := hid (Cells.single (E := EStr) (w := wr.alloc (.cells #[.string y.key] 9)) (S := fun _ => False) (x := y.key) (cs := [.string y.key]) rfl)
        have HST := hid hst
        have HLN := hid (show ks.length ≤ j by
          have := HSB.out.length_le
          rw [List.length_map, List.length_take] at this; omega)
        clear hst
        cases hbit : (bits BinOp.and .u16 (pick / 2 ^ j) 1 == 1) with
        | true =>
          go_wp2_with (at_builtin; refine wpList_own_append2 (ys := [y.key]) _ rfl (.tmp 24) (.tmp 31) EStr.ok ty_strs rfl rfl rfl HOb.out HRx.out HDx.out ?d1 ?d2 ?d3 ?d4 ?_)
          case d1 => exact fun g hg => ⟨fun h => h, fun h => h⟩
          case d2 => have := HLN.out; simp only [List.length_singleton]; omega
          case d3 => have := HLN.out; simp only [List.length_singleton, maxLen]; omega
          case d4 => exact Nat.le_trans HR.out.size HST.out.size
          intro v' w' hown' hk hb
          obtain ⟨A7, c7, rfl, hl7, hc7⟩ := hown'.shape
          have HK := hid (show Ext W0 w' from (HR.out.ext HST.out).trans hk fun k hlt e => by
            have := (HOW.out.lt (show (Value.slice A4 ks.length c4).ownBlock = some k from e)).1; omega)
          have HO3 := hid (hown'.more (S' := fun _ => False) EStr.ok fun k _ h => by rcases h with h | h <;> exact h)
          have HS3 := hid (show List.Sublist (ks ++ [y.key]) ((vo.take (j + 1)).map F.key) from by
            rw [HTS.out, List.map_append]; exact HSB.out.append (List.Sublist.refl _))
          clear hown' hk hb HOb HRx HDx HST
          go_wp2
          exact ⟨⟨j + 1, ks ++ [y.key], by omega, by omega, by go_num, HS3.out, HO3.out, HK.out⟩, by simp [intOf]; omega⟩
        | false =>
          have HS3 := hid (show List.Sublist ks ((vo.take (j + 1)).map F.key) from by
            rw [HTS.out, List.map_append]; exact HSB.out.trans (List.sublist_append_left _ _))
          clear HOb HRx HDx HST
          go_wp2
          exact ⟨⟨j + 1, ks, by omega, by omega, by go_num, HS3.out, HOW.out, HR.out⟩, by simp [intOf]; omega⟩
      · have hjX : (j : Int) < vo.length := by omega
        have hjY : ¬ (j : Int) < 16 := by omega
        have HT := hid (show j = 16 by omega)
        clear hsub hown hr
        go_wp2
        go_ret
        refine ⟨_, ks, rfl, ?_, (HOW.out.sl EStr.ok).more EStr.ok fun _ _ _ => trivial, HE0.out.ext HR.out⟩
        have := HSB.out; rw [HT.out] at this; exact this
    · have hjX : ¬ (j : Int) < vo.length := by omega
      clear hsub hown hr
      go_wp2
      go_ret
      refine ⟨_, ks, rfl, ?_, (HOW.out.sl EStr.ok).more EStr.ok fun _ _ _ => trivial, HE0.out.ext HR.out⟩
      have h1 := HSB.out
      rw [List.take_of_length_le (by omega)] at h1
      rw [List.take_of_length_le (by omega)]; exact h1
end Go.Proofs.YtggkidnlmaindaaDoor
