/- The reference's Sound at sound values, over a contract of utf8.ValidString at texts below 128. -/
import Derived.Test.YtggkidnlmaindaaDoorSoundL
import Derived.Test.YtggkidnlmaindaaDoorLawOneA
set_option linter.unusedSimpArgs false
set_option linter.unusedVariables false
namespace Go.Proofs.YtggkidnlmaindaaDoor
open Go.RowKit
set_option linter.unusedVariables false
/-- utf8.ValidString at texts below 128, in whatever world that has grown out of w0. -/
def ValAsc (w0 : World) : Prop := ∀ s, Asc s → ∀ w', Ext w0 w' → Calls Tryd.prog 32 #[.string s] w' fun e w'' => e = .returned (.bool true) ∧ Ext w' w''
theorem ValAsc.ext {w0 w : World} (h : ValAsc w0) (he : Ext w0 w) : ValAsc w := fun s hs w' h' => h s hs w' (he.ext h')
theorem asc_nil : Asc ⟨#[]⟩ := ⟨fun c h => by simp at h, by decide⟩
theorem rise_at {o : List F} (h : Rise o) {j : Nat} (hj : j + 1 < o.length) : keyLt o[j].key o[j + 1].key = true := List.pairwise_iff_getElem.1 ((rise_iff o).1 h) j (j + 1) (by omega) hj (by omega)

set_option maxRecDepth 20000 in
set_option maxHeartbeats 6400000 in
theorem rsound_ok (w0 : World) (hv : ValAsc w0) : ∀ (m : Nat) (x : V), x.size ≤ m → SV x → ∀ (u : Value) (S : BS) (w : World), Ext w0 w → VAt w S u x →
    Calls Tryd.prog 25 #[u] w fun e w' => e = .returned (.bool true) ∧ Ext w w' := by
  intro m
  induction m with
  | zero => intro x h; have := x.size_pos; omega
  | succ m ih =>
  intro x hsz hsv u S w hw0 hu
  obtain ⟨lv, ov, rfl, hl, ho⟩ := hu
  obtain ⟨A, c, rfl, hlc, hcm⟩ := hl.shape
  obtain ⟨A', c', rfl, hlc', hcm'⟩ := ho.shape
  unfold maxLen at hcm hcm'
  have hlen := V.size_eq x
  have HIH := hid ih
  have HV := hid (hv.ext hw0)
  cases x with
  | mk k n s l o =>
  obtain ⟨hk, hsl, hso, hri⟩ := (SV_iff _).1 hsv
  simp only [V.kind, V.n, V.s, V.l, V.o] at *
  have hE1 : Ext w (w.alloc (.cells #[U8 k, .int .i64 n, .string s, .slice A l.length c, .slice A' o.length c'] TVAL)) := (Keep.refl _ _).alloc _
  have hb1 := Blk.new w TVAL #[U8 k, .int .i64 n, .string s, .slice A l.length c, .slice A' o.length c']
  have HL := hid (hl.ext EVal.ok hE1)
  have HO := hid (ho.ext EField.ok hE1)
  have HE1 := hid hE1
  have HB1 := hid hb1
  have HSL := hid ((SVs_iff _).1 hsl)
  have HSO := hid ((SFs_iff _).1 hso)
  have HRI := hid hri
  have HSZ := hid (And.intro hsz hlen)
  have h0w : w.heap.size < (w.alloc (.cells #[U8 k, .int .i64 n, .string s, .slice A l.length c, .slice A' o.length c'] TVAL)).heap.size := by simp
  clear ih hv hsv hl ho hE1 hb1 hsl hso hri hsz hlen
  rcases hk with ⟨rfl, rfl, rfl, rfl, rfl⟩ | ⟨rfl, hn, rfl, rfl, rfl⟩ | ⟨rfl, rfl, rfl, rfl⟩ | ⟨rfl, rfl, hs, rfl, rfl⟩ | ⟨rfl, rfl, rfl, rfl⟩ | ⟨rfl, rfl, rfl, rfl⟩
  · skip
    skip
    obtain ⟨q0, q1, q2, q3, q4⟩ := blk5 HB1.out
    go_enter Tryd.func25, Tryd.ntmps25
    go_wp2_with fail
    generalize w.alloc (.cells _ _) = w1 at *
    refine (HV.out _ asc_nil _ HE1.out).mono ?_
    rintro e w2 ⟨rfl, hE2⟩
    replace HE1 := hid (HE1.out.ext hE2)
    replace HB1 := hid (HB1.out.keep hE2 id)
    replace HL := hid (HL.out.ext EVal.ok hE2)
    replace HO := hid (HO.out.ext EField.ok hE2)
    clear hE2 q0 q1 q2 q3 q4 h0w
    obtain ⟨q0, q1, q2, q3, q4⟩ := blk5 HB1.out
    go_wp2_with fail
    go_loopw [3, 4] (fun i _ wr => i = .int .i64 0 ∧ Ext w2 wr) (fun i _ _ => 0)
    case atStart => exact ⟨rfl, Keep.refl _ _⟩
    case round =>
      obtain ⟨rfl, hEr⟩ := hrel
      have HEr := hid hEr
      replace q0 := (hEr.cell (lt_of_cell q0) id).trans q0
      replace q1 := (hEr.cell (lt_of_cell q1) id).trans q1
      replace q2 := (hEr.cell (lt_of_cell q2) id).trans q2
      replace q3 := (hEr.cell (lt_of_cell q3) id).trans q3
      replace q4 := (hEr.cell (lt_of_cell q4) id).trans q4
      clear hEr
      go_wp2_with fail
      go_loopw [5, 6] (fun i _ ws => i = .int .i64 0 ∧ Ext wr ws) (fun i _ _ => 0)
      case atStart => exact ⟨rfl, Keep.refl _ _⟩
      case round =>
        obtain ⟨rfl, hEs⟩ := hrel
        have HEs := hid (HEr.out.ext hEs)
        replace q0 := (hEs.cell (lt_of_cell q0) id).trans q0
        replace q1 := (hEs.cell (lt_of_cell q1) id).trans q1
        replace q2 := (hEs.cell (lt_of_cell q2) id).trans q2
        replace q3 := (hEs.cell (lt_of_cell q3) id).trans q3
        replace q4 := (hEs.cell (lt_of_cell q4) id).trans q4
        clear hEs
        go_wp2
        go_ret
        exact ⟨rfl, HE1.out.ext HEs.out⟩
  · rcases hn with rfl | rfl
    · skip
      skip
      obtain ⟨q0, q1, q2, q3, q4⟩ := blk5 HB1.out
      go_enter Tryd.func25, Tryd.ntmps25
      go_wp2_with fail
      generalize w.alloc (.cells _ _) = w1 at *
      refine (HV.out _ asc_nil _ HE1.out).mono ?_
      rintro e w2 ⟨rfl, hE2⟩
      replace HE1 := hid (HE1.out.ext hE2)
      replace HB1 := hid (HB1.out.keep hE2 id)
      replace HL := hid (HL.out.ext EVal.ok hE2)
      replace HO := hid (HO.out.ext EField.ok hE2)
      clear hE2 q0 q1 q2 q3 q4 h0w
      obtain ⟨q0, q1, q2, q3, q4⟩ := blk5 HB1.out
      go_wp2_with fail
      go_loopw [3, 4] (fun i _ wr => i = .int .i64 0 ∧ Ext w2 wr) (fun i _ _ => 0)
      case atStart => exact ⟨rfl, Keep.refl _ _⟩
      case round =>
        obtain ⟨rfl, hEr⟩ := hrel
        have HEr := hid hEr
        replace q0 := (hEr.cell (lt_of_cell q0) id).trans q0
        replace q1 := (hEr.cell (lt_of_cell q1) id).trans q1
        replace q2 := (hEr.cell (lt_of_cell q2) id).trans q2
        replace q3 := (hEr.cell (lt_of_cell q3) id).trans q3
        replace q4 := (hEr.cell (lt_of_cell q4) id).trans q4
        clear hEr
        go_wp2_with fail
        go_loopw [5, 6] (fun i _ ws => i = .int .i64 0 ∧ Ext wr ws) (fun i _ _ => 0)
        case atStart => exact ⟨rfl, Keep.refl _ _⟩
        case round =>
          obtain ⟨rfl, hEs⟩ := hrel
          have HEs := hid (HEr.out.ext hEs)
          replace q0 := (hEs.cell (lt_of_cell q0) id).trans q0
          replace q1 := (hEs.cell (lt_of_cell q1) id).trans q1
          replace q2 := (hEs.cell (lt_of_cell q2) id).trans q2
          replace q3 := (hEs.cell (lt_of_cell q3) id).trans q3
          replace q4 := (hEs.cell (lt_of_cell q4) id).trans q4
          clear hEs
          go_wp2
          go_ret
          exact ⟨rfl, HE1.out.ext HEs.out⟩
    · skip
      skip
      obtain ⟨q0, q1, q2, q3, q4⟩ := blk5 HB1.out
      go_enter Tryd.func25, Tryd.ntmps25
      go_wp2_with fail
      generalize w.alloc (.cells _ _) = w1 at *
      refine (HV.out _ asc_nil _ HE1.out).mono ?_
      rintro e w2 ⟨rfl, hE2⟩
      replace HE1 := hid (HE1.out.ext hE2)
      replace HB1 := hid (HB1.out.keep hE2 id)
      replace HL := hid (HL.out.ext EVal.ok hE2)
      replace HO := hid (HO.out.ext EField.ok hE2)
      clear hE2 q0 q1 q2 q3 q4 h0w
      obtain ⟨q0, q1, q2, q3, q4⟩ := blk5 HB1.out
      go_wp2_with fail
      go_loopw [3, 4] (fun i _ wr => i = .int .i64 0 ∧ Ext w2 wr) (fun i _ _ => 0)
      case atStart => exact ⟨rfl, Keep.refl _ _⟩
      case round =>
        obtain ⟨rfl, hEr⟩ := hrel
        have HEr := hid hEr
        replace q0 := (hEr.cell (lt_of_cell q0) id).trans q0
        replace q1 := (hEr.cell (lt_of_cell q1) id).trans q1
        replace q2 := (hEr.cell (lt_of_cell q2) id).trans q2
        replace q3 := (hEr.cell (lt_of_cell q3) id).trans q3
        replace q4 := (hEr.cell (lt_of_cell q4) id).trans q4
        clear hEr
        go_wp2_with fail
        go_loopw [5, 6] (fun i _ ws => i = .int .i64 0 ∧ Ext wr ws) (fun i _ _ => 0)
        case atStart => exact ⟨rfl, Keep.refl _ _⟩
        case round =>
          obtain ⟨rfl, hEs⟩ := hrel
          have HEs := hid (HEr.out.ext hEs)
          replace q0 := (hEs.cell (lt_of_cell q0) id).trans q0
          replace q1 := (hEs.cell (lt_of_cell q1) id).trans q1
          replace q2 := (hEs.cell (lt_of_cell q2) id).trans q2
          replace q3 := (hEs.cell (lt_of_cell q3) id).trans q3
          replace q4 := (hEs.cell (lt_of_cell q4) id).trans q4
          clear hEs
          go_wp2
          go_ret
          exact ⟨rfl, HE1.out.ext HEs.out⟩
  · skip
    skip
    obtain ⟨q0, q1, q2, q3, q4⟩ := blk5 HB1.out
    go_enter Tryd.func25, Tryd.ntmps25
    go_wp2_with fail
    generalize w.alloc (.cells _ _) = w1 at *
    refine (HV.out _ asc_nil _ HE1.out).mono ?_
    rintro e w2 ⟨rfl, hE2⟩
    replace HE1 := hid (HE1.out.ext hE2)
    replace HB1 := hid (HB1.out.keep hE2 id)
    replace HL := hid (HL.out.ext EVal.ok hE2)
    replace HO := hid (HO.out.ext EField.ok hE2)
    clear hE2 q0 q1 q2 q3 q4 h0w
    obtain ⟨q0, q1, q2, q3, q4⟩ := blk5 HB1.out
    go_wp2_with fail
    go_loopw [3, 4] (fun i _ wr => i = .int .i64 0 ∧ Ext w2 wr) (fun i _ _ => 0)
    case atStart => exact ⟨rfl, Keep.refl _ _⟩
    case round =>
      obtain ⟨rfl, hEr⟩ := hrel
      have HEr := hid hEr
      replace q0 := (hEr.cell (lt_of_cell q0) id).trans q0
      replace q1 := (hEr.cell (lt_of_cell q1) id).trans q1
      replace q2 := (hEr.cell (lt_of_cell q2) id).trans q2
      replace q3 := (hEr.cell (lt_of_cell q3) id).trans q3
      replace q4 := (hEr.cell (lt_of_cell q4) id).trans q4
      clear hEr
      go_wp2_with fail
      go_loopw [5, 6] (fun i _ ws => i = .int .i64 0 ∧ Ext wr ws) (fun i _ _ => 0)
      case atStart => exact ⟨rfl, Keep.refl _ _⟩
      case round =>
        obtain ⟨rfl, hEs⟩ := hrel
        have HEs := hid (HEr.out.ext hEs)
        replace q0 := (hEs.cell (lt_of_cell q0) id).trans q0
        replace q1 := (hEs.cell (lt_of_cell q1) id).trans q1
        replace q2 := (hEs.cell (lt_of_cell q2) id).trans q2
        replace q3 := (hEs.cell (lt_of_cell q3) id).trans q3
        replace q4 := (hEs.cell (lt_of_cell q4) id).trans q4
        clear hEs
        go_wp2
        go_ret
        exact ⟨rfl, HE1.out.ext HEs.out⟩
  · skip
    have HS := hid hs
    clear hs
    obtain ⟨q0, q1, q2, q3, q4⟩ := blk5 HB1.out
    go_enter Tryd.func25, Tryd.ntmps25
    go_wp2_with fail
    generalize w.alloc (.cells _ _) = w1 at *
    refine (HV.out _ HS.out _ HE1.out).mono ?_
    rintro e w2 ⟨rfl, hE2⟩
    replace HE1 := hid (HE1.out.ext hE2)
    replace HB1 := hid (HB1.out.keep hE2 id)
    replace HL := hid (HL.out.ext EVal.ok hE2)
    replace HO := hid (HO.out.ext EField.ok hE2)
    clear hE2 q0 q1 q2 q3 q4 h0w
    obtain ⟨q0, q1, q2, q3, q4⟩ := blk5 HB1.out
    go_wp2_with fail
    go_loopw [3, 4] (fun i _ wr => i = .int .i64 0 ∧ Ext w2 wr) (fun i _ _ => 0)
    case atStart => exact ⟨rfl, Keep.refl _ _⟩
    case round =>
      obtain ⟨rfl, hEr⟩ := hrel
      have HEr := hid hEr
      replace q0 := (hEr.cell (lt_of_cell q0) id).trans q0
      replace q1 := (hEr.cell (lt_of_cell q1) id).trans q1
      replace q2 := (hEr.cell (lt_of_cell q2) id).trans q2
      replace q3 := (hEr.cell (lt_of_cell q3) id).trans q3
      replace q4 := (hEr.cell (lt_of_cell q4) id).trans q4
      clear hEr
      go_wp2_with fail
      go_loopw [5, 6] (fun i _ ws => i = .int .i64 0 ∧ Ext wr ws) (fun i _ _ => 0)
      case atStart => exact ⟨rfl, Keep.refl _ _⟩
      case round =>
        obtain ⟨rfl, hEs⟩ := hrel
        have HEs := hid (HEr.out.ext hEs)
        replace q0 := (hEs.cell (lt_of_cell q0) id).trans q0
        replace q1 := (hEs.cell (lt_of_cell q1) id).trans q1
        replace q2 := (hEs.cell (lt_of_cell q2) id).trans q2
        replace q3 := (hEs.cell (lt_of_cell q3) id).trans q3
        replace q4 := (hEs.cell (lt_of_cell q4) id).trans q4
        clear hEs
        go_wp2
        go_ret
        exact ⟨rfl, HE1.out.ext HEs.out⟩
  · skip
    skip
    obtain ⟨q0, q1, q2, q3, q4⟩ := blk5 HB1.out
    go_enter Tryd.func25, Tryd.ntmps25
    go_wp2_with fail
    generalize w.alloc (.cells _ _) = w1 at *
    refine (HV.out _ asc_nil _ HE1.out).mono ?_
    rintro e w2 ⟨rfl, hE2⟩
    replace HE1 := hid (HE1.out.ext hE2)
    replace HB1 := hid (HB1.out.keep hE2 id)
    replace HL := hid (HL.out.ext EVal.ok hE2)
    replace HO := hid (HO.out.ext EField.ok hE2)
    clear hE2 q0 q1 q2 q3 q4 h0w
    obtain ⟨q0, q1, q2, q3, q4⟩ := blk5 HB1.out
    go_wp2_with fail
    go_loopw [3, 4] (fun i _ wr => ∃ j : Nat, j ≤ l.length ∧ i = .int .i64 j ∧ Ext w2 wr) (fun i _ _ => l.length - (intOf i).toNat)
    case atStart => exact ⟨0, by omega, rfl, Keep.refl _ _⟩
    case round =>
      obtain ⟨j, hj, rfl, hEr⟩ := hrel
      have HEr := hid hEr
      replace q0 := (hEr.cell (lt_of_cell q0) id).trans q0
      replace q1 := (hEr.cell (lt_of_cell q1) id).trans q1
      replace q2 := (hEr.cell (lt_of_cell q2) id).trans q2
      replace q3 := (hEr.cell (lt_of_cell q3) id).trans q3
      replace q4 := (hEr.cell (lt_of_cell q4) id).trans q4
      clear hEr
      by_cases hlt : j < l.length
      · obtain ⟨b1, o1, cs, rfl, _, _, hrd, hcell⟩ := (HL.out.ext EVal.ok HEr.out).at_ EVal.ok hlt
        have hyz : l[j].size ≤ m := by have := HSZ.out; have := V.sizes_mem (List.getElem_mem hlt); omega
        have hys := HSL.out _ (List.getElem_mem hlt)
        generalize l[j] = y at *
        obtain ⟨A1, m1, d1, A2, m2, d2, rfl, _, _, hva⟩ := EVal_cells hrd
        have c0 := hcell 0 _ rfl
        have c1 := hcell 1 _ rfl
        have c2 := hcell 2 _ rfl
        have c3 := hcell 3 _ rfl
        have c4 := hcell 4 _ rfl
        have hz : EVal.size = 5 := rfl
        simp only [hz, Nat.add_zero] at c0 c1 c2 c3 c4
        have HY := hid (And.intro hyz (And.intro hys hva))
        clear hz hcell hrd hyz hys hva
        go_wp2_with fail
        refine (HIH.out y HY.out.1 HY.out.2.1 _ _ wr (hw0.ext (HE1.out.ext HEr.out)) HY.out.2.2).mono ?_
        rintro e w3 ⟨rfl, hE3⟩
        have HE3 := hid (HEr.out.ext hE3)
        clear hE3 HEr c0 c1 c2 c3 c4
        go_wp2
        go_roundw
        case rel => exact ⟨j + 1, by omega, by go_num, HE3.out⟩
        case measure => simp [intOf]; omega
      · obtain rfl : j = l.length := by omega
        have hnl : ¬ (l.length : Int) < l.length := by omega
        go_wp2_with fail
        go_loopw [5, 6] (fun i _ ws => i = .int .i64 0 ∧ Ext wr ws) (fun i _ _ => 0)
        case atStart => exact ⟨rfl, Keep.refl _ _⟩
        case round =>
          obtain ⟨rfl, hEs⟩ := hrel
          have HEs := hid (HEr.out.ext hEs)
          replace q0 := (hEs.cell (lt_of_cell q0) id).trans q0
          replace q1 := (hEs.cell (lt_of_cell q1) id).trans q1
          replace q2 := (hEs.cell (lt_of_cell q2) id).trans q2
          replace q3 := (hEs.cell (lt_of_cell q3) id).trans q3
          replace q4 := (hEs.cell (lt_of_cell q4) id).trans q4
          clear hEs
          go_wp2
          go_ret
          exact ⟨rfl, HE1.out.ext HEs.out⟩
  · skip
    skip
    obtain ⟨q0, q1, q2, q3, q4⟩ := blk5 HB1.out
    go_enter Tryd.func25, Tryd.ntmps25
    go_wp2_with fail
    generalize w.alloc (.cells _ _) = w1 at *
    refine (HV.out _ asc_nil _ HE1.out).mono ?_
    rintro e w2 ⟨rfl, hE2⟩
    replace HE1 := hid (HE1.out.ext hE2)
    replace HB1 := hid (HB1.out.keep hE2 id)
    replace HL := hid (HL.out.ext EVal.ok hE2)
    replace HO := hid (HO.out.ext EField.ok hE2)
    clear hE2 q0 q1 q2 q3 q4 h0w
    obtain ⟨q0, q1, q2, q3, q4⟩ := blk5 HB1.out
    go_wp2_with fail
    go_loopw [3, 4] (fun i _ wr => i = .int .i64 0 ∧ Ext w2 wr) (fun i _ _ => 0)
    case atStart => exact ⟨rfl, Keep.refl _ _⟩
    case round =>
      obtain ⟨rfl, hEr⟩ := hrel
      have HEr := hid hEr
      replace q0 := (hEr.cell (lt_of_cell q0) id).trans q0
      replace q1 := (hEr.cell (lt_of_cell q1) id).trans q1
      replace q2 := (hEr.cell (lt_of_cell q2) id).trans q2
      replace q3 := (hEr.cell (lt_of_cell q3) id).trans q3
      replace q4 := (hEr.cell (lt_of_cell q4) id).trans q4
      clear hEr
      go_wp2_with fail
      go_loopw [5, 6] (fun i _ ws => ∃ j : Nat, j ≤ o.length ∧ i = .int .i64 j ∧ Ext wr ws) (fun i _ _ => o.length - (intOf i).toNat)
      case atStart => exact ⟨0, by omega, rfl, Keep.refl _ _⟩
      case round =>
        obtain ⟨j, hj, rfl, hEs⟩ := hrel
        have HEs := hid (HEr.out.ext hEs)
        have HR0 := hid hEs
        replace q0 := (hEs.cell (lt_of_cell q0) id).trans q0
        replace q1 := (hEs.cell (lt_of_cell q1) id).trans q1
        replace q2 := (hEs.cell (lt_of_cell q2) id).trans q2
        replace q3 := (hEs.cell (lt_of_cell q3) id).trans q3
        replace q4 := (hEs.cell (lt_of_cell q4) id).trans q4
        clear hEs
        by_cases hlt : j < o.length
        · obtain ⟨b1, o1, cs, rfl, _, _, hrd, hcell⟩ := (HO.out.ext EField.ok HEs.out).at_ EField.ok hlt
          have hyz : o[j].v.size ≤ m := by have := HSZ.out; have := F.sizes_mem (List.getElem_mem hlt); omega
          have hys := (SF_iff _).1 (HSO.out _ (List.getElem_mem hlt))
          have hprev : 0 < j → ∃ i : Nat, j = i + 1 ∧ ∃ g : F, keyLt g.key o[j].key = true ∧ ∃ cs, EField.rd wr (fun q => S q) cs g ∧ ∀ t u, cs[t]? = some u → wr.cell? ⟨b1, o1 + i * 6 + t, none⟩ = some u := fun h => by
            obtain ⟨i, rfl⟩ : ∃ i, j = i + 1 := ⟨j - 1, by omega⟩
            obtain ⟨b2, o2, cs2, e2, _, _, hrd2, hcell2⟩ := (HO.out.ext EField.ok HEs.out).at_ EField.ok (k := i) (by omega)
            obtain ⟨rfl, rfl⟩ : b1 = b2 ∧ o1 = o2 := by simpa using e2
            exact ⟨i, rfl, o[i], rise_at HRI.out hlt, cs2, hrd2, hcell2⟩
          generalize o[j] = y at *
          obtain ⟨_, _, rfl, ⟨A1, d1, rfl⟩, ⟨A2, d2, rfl⟩, hva⟩ := EField_cells hrd
          have ck := hcell 0 _ rfl
          have c0 := hcell 1 _ rfl
          have c1 := hcell 2 _ rfl
          have c2 := hcell 3 _ rfl
          have c3 := hcell 4 _ rfl
          have c4 := hcell 5 _ rfl
          have hz : EField.size = 6 := rfl
          simp only [hz, Nat.add_zero] at ck c0 c1 c2 c3 c4
          have HY := hid (And.intro hyz (And.intro hys.1 (And.intro hys.2 hva)))
          have HPV := hid hprev
          clear hz hcell hrd hyz hys hva hprev
          go_wp2_with fail
          refine (HIH.out y.v HY.out.1 HY.out.2.2.1 _ _ wr (hw0.ext (HE1.out.ext HEs.out)) HY.out.2.2.2).mono ?_
          rintro e w3 ⟨rfl, hE3⟩
          have HE3 := hid (HEs.out.ext hE3)
          have HR3 := hid (HR0.out.ext hE3)
          replace q0 := (hE3.cell (lt_of_cell q0) id).trans q0
          replace q1 := (hE3.cell (lt_of_cell q1) id).trans q1
          replace q2 := (hE3.cell (lt_of_cell q2) id).trans q2
          replace q3 := (hE3.cell (lt_of_cell q3) id).trans q3
          replace q4 := (hE3.cell (lt_of_cell q4) id).trans q4
          replace ck := (hE3.cell (lt_of_cell ck) id).trans ck
          by_cases hj0 : 0 < j
          · obtain ⟨i, hji, g, hkl, cs2, hrd2, hcell2⟩ := HPV.out hj0
            have hwj : IntKind.i64.wrap ((j : Int) - 1) = (i : Int) := by rw [IntKind.wrap_i64]; omega
            have hio : (i : Int) < o.length := by omega
            have hi0 : (0 : Int) ≤ i := by omega
            have hb1 : Op.bytesLess y.key.toList g.key.toList = false := by
              cases hc : Op.bytesLess y.key.toList g.key.toList with
              | false => rfl
              | true => exact absurd (less_trans (show Op.bytesLess g.key.toList y.key.toList = true from hkl) hc) (by rw [less_irrefl]; simp)
            have hb2 : (y.key.toList == g.key.toList) = false := by
              rw [beq_eq_false_iff_ne]
              intro e
              have h1 : Op.bytesLess g.key.toList y.key.toList = true := hkl
              rw [e, less_irrefl] at h1
              cases h1
            clear hji HPV hkl
            obtain ⟨_, _, rfl, _, _, _⟩ := EField_cells hrd2
            have cp := hcell2 0 _ rfl
            simp only [Nat.add_zero] at cp
            replace cp := (hE3.cell (lt_of_cell cp) id).trans cp
            have hj0X : (0 : Int) < j := by omega
            clear hE3 hcell2 hrd2 c0 c1 c2 c3 c4
            go_wp2_with fail
            refine wp_region_grow (specOf [(9, fun v _ => v = .bool true)]) (fun w' => Ext w3 w') (stable_cons (fun v w w' h he => h) stable_nil) (stableC_ext _) (by kernel_rfl) (by kernel_rfl) (Keep.drew (Keep.refl _ _)) ?_
            iterate 9
              (try simp only [Act.put, List.setIfInBounds_toArray, List.set_cons_zero, List.set_cons_succ])
              refine grow_run rfl rfl rfl ?_
              apply Exists.intro
              refine ⟨fun w' hC hK => ?_, ?_⟩
              · have q4 := (hC.cell (lt_of_cell q4) id).trans q4
                have ck := (hC.cell (lt_of_cell ck) id).trans ck
                go_simp
                rfl
            (try simp only [Act.put, List.setIfInBounds_toArray, List.set_cons_zero, List.set_cons_succ])
            refine grow_eff rfl rfl rfl (fun w' hC hK => ?_) (fun v9 hv9 => ?_)
            · unfold growAt
              go_simp
              refine grow_call ((HV.out _ HY.out.2.1 w' (HE1.out.ext (HE3.out.ext hC))).mono ?_)
              rintro e w'' ⟨rfl, hE⟩
              exact ⟨_, rfl, hE, rfl⟩
            obtain ⟨_, _, rfl⟩ := hv9.head
            iterate 6
              (try simp only [Act.put, List.setIfInBounds_toArray, List.set_cons_zero, List.set_cons_succ])
              refine grow_run rfl rfl rfl ?_
              apply Exists.intro
              refine ⟨fun w' hC hK => ?_, ?_⟩
              · go_simp
                rfl
            iterate 14
              (try simp only [Act.put, List.setIfInBounds_toArray, List.set_cons_zero, List.set_cons_succ])
              refine grow_run rfl rfl rfl ?_
              apply Exists.intro
              refine ⟨fun w' hC hK => ?_, ?_⟩
              · have q4 := (hC.cell (lt_of_cell q4) id).trans q4
                have ck := (hC.cell (lt_of_cell ck) id).trans ck
                have cp := (hC.cell (lt_of_cell cp) id).trans cp
                go_simp
                rfl
            iterate 2
              (try simp only [Act.put, List.setIfInBounds_toArray, List.set_cons_zero, List.set_cons_succ])
              refine grow_run rfl rfl rfl ?_
              apply Exists.intro
              refine ⟨fun w' hC hK => ?_, ?_⟩
              · go_simp
                rfl
            refine grow_nil fun w5 hC _ => ?_
            have HR5 := hid (HR3.out.ext (show Ext w3 w5 from hC))
            clear hC q0 q1 q2 q3 q4
            go_wp2
            exact ⟨⟨j + 1, by omega, by go_num, HR5.out⟩, by simp [intOf]; omega⟩
          · clear HPV hE3 c0 c1 c2 c3 c4
            have hj0X : ¬ (0 : Int) < j := by omega
            go_wp2_with fail
            refine wp_region_grow (specOf [(9, fun v _ => v = .bool true)]) (fun w' => Ext w3 w') (stable_cons (fun v w w' h he => h) stable_nil) (stableC_ext _) (by kernel_rfl) (by kernel_rfl) (Keep.drew (Keep.refl _ _)) ?_
            iterate 9
              (try simp only [Act.put, List.setIfInBounds_toArray, List.set_cons_zero, List.set_cons_succ])
              refine grow_run rfl rfl rfl ?_
              apply Exists.intro
              refine ⟨fun w' hC hK => ?_, ?_⟩
              · have q4 := (hC.cell (lt_of_cell q4) id).trans q4
                have ck := (hC.cell (lt_of_cell ck) id).trans ck
                go_simp
                rfl
            (try simp only [Act.put, List.setIfInBounds_toArray, List.set_cons_zero, List.set_cons_succ])
            refine grow_eff rfl rfl rfl (fun w' hC hK => ?_) (fun v9 hv9 => ?_)
            · unfold growAt
              go_simp
              refine grow_call ((HV.out _ HY.out.2.1 w' (HE1.out.ext (HE3.out.ext hC))).mono ?_)
              rintro e w'' ⟨rfl, hE⟩
              exact ⟨_, rfl, hE, rfl⟩
            obtain ⟨_, _, rfl⟩ := hv9.head
            iterate 6
              (try simp only [Act.put, List.setIfInBounds_toArray, List.set_cons_zero, List.set_cons_succ])
              refine grow_run rfl rfl rfl ?_
              apply Exists.intro
              refine ⟨fun w' hC hK => ?_, ?_⟩
              · go_simp
                rfl
            iterate 14
              (try simp only [Act.put, List.setIfInBounds_toArray, List.set_cons_zero, List.set_cons_succ])
              with_reducible refine grow_skip ?_ ?_ ?_
              · rfl
              · rfl
            iterate 2
              (try simp only [Act.put, List.setIfInBounds_toArray, List.set_cons_zero, List.set_cons_succ])
              refine grow_run rfl rfl rfl ?_
              apply Exists.intro
              refine ⟨fun w' hC hK => ?_, ?_⟩
              · go_simp
                rfl
            refine grow_nil fun w5 hC _ => ?_
            have HR5 := hid (HR3.out.ext (show Ext w3 w5 from hC))
            clear hC q0 q1 q2 q3 q4
            go_wp2
            exact ⟨⟨j + 1, by omega, by go_num, HR5.out⟩, by simp [intOf]; omega⟩
        · obtain rfl : j = o.length := by omega
          have hnl : ¬ (o.length : Int) < o.length := by omega
          go_wp2
          go_ret
          exact ⟨rfl, HE1.out.ext HEs.out⟩
end Go.Proofs.YtggkidnlmaindaaDoor
