/- The law's 'heavy' of chapter 18, at the empty record: some truth. -/
import Derived.Test.YtggkidnlmaindaaDoorProjG
import Derived.Test.YtggkidnlmaindaaDoorToks
set_option linter.unusedSimpArgs false
set_option linter.unusedVariables false
namespace Go.Proofs.YtggkidnlmaindaaDoor
open Go.RowKit
set_option linter.unusedVariables false

abbrev zRec : Value := .agg #[.int .u8 0, .int .u32 0, .int .u32 0, .slice none 0 0, .slice none 0 0, .slice none 0 0, .bool false]
set_option maxHeartbeats 1600000 in
theorem heavy6_nil (w : World) : Calls Tryd.prog 26 #[.slice none 0 0] w fun e w' => e = .returned (.int .i64 0) ∧ Ext w w' := by
  go_enter Tryd.func26, Tryd.ntmps26
  go_wp2
  go_loop [3, 4] (fun y i => y = .int .i64 0 ∧ i = .int .i64 0) (fun _ i => 0)
  case atStart => exact ⟨rfl, rfl⟩
  case round =>
    obtain ⟨rfl, rfl⟩ := hrel
    go_wp2
    go_ret
    exact ⟨rfl, Keep.refl _ _⟩
set_option maxHeartbeats 1600000 in
theorem heavy10_nil (w : World) : Calls Tryd.prog 30 #[zRec] w fun e w' => e = .returned (.int .i64 0) ∧ Ext w w' := by
  have hE0 : Ext w (w.alloc (.cells #[.int .u8 0, .int .u32 0, .int .u32 0, .slice none 0 0, .slice none 0 0, .slice none 0 0, .bool false] 30)) := (Keep.refl _ _).alloc _
  have hb := Blk.new w 30 #[.int .u8 0, .int .u32 0, .int .u32 0, .slice none 0 0, .slice none 0 0, .slice none 0 0, .bool false]
  obtain ⟨W0, hW0⟩ : ∃ W0, w.alloc (.cells #[.int .u8 0, .int .u32 0, .int .u32 0, .slice none 0 0, .slice none 0 0, .slice none 0 0, .bool false] 30) = W0 := ⟨_, rfl⟩
  rw [hW0] at hE0 hb
  have HE0 := hid hE0
  have HB := hid hb
  have q5 := hb.cell 5
  simp only [List.getElem?_toArray, List.getElem?_cons_succ, List.getElem?_cons_zero] at q5
  clear hE0 hb
  go_enter Tryd.func30, Tryd.ntmps30
  go_wp2_with fail
  refine (heavy6_nil W0).mono ?_
  rintro e w1 ⟨rfl, hE⟩
  have q3 := (HB.out.keep hE id).cell 3
  have q4 := (HB.out.keep hE id).cell 4
  simp only [List.getElem?_toArray, List.getElem?_cons_succ, List.getElem?_cons_zero] at q3 q4
  have HE := hid (HE0.out.ext hE)
  clear hE hW0 q5
  go_wp2
  go_loop [3, 4] (fun y i => y = .int .i64 0 ∧ i = .int .i64 0) (fun _ i => 0)
  case atStart => exact ⟨rfl, rfl⟩
  case round =>
    obtain ⟨rfl, rfl⟩ := hrel
    go_wp2
    go_loop [3, 5] (fun y i => y = .int .i64 0 ∧ i = .int .i64 0) (fun _ i => 0)
    case atStart => exact ⟨rfl, rfl⟩
    case round =>
      obtain ⟨rfl, rfl⟩ := hrel
      go_wp2
      go_ret
      exact ⟨rfl, HE.out⟩

def TruthIs (w : World) (e : Ending) (w' : World) : Prop := ∃ b : Bool, e = .returned (.bool b) ∧ Ext w w'
set_option maxHeartbeats 3200000 in
theorem heavy18_ok (w : World) (S S2 : BS) (v pv : Value) (ts : List Tk) (p : List ByteArray) (h : Sl ETok w S v ts) (hp : Sl EStr w S2 pv p) :
    Calls Tryd.prog 8 #[v, pv, zRec] w (TruthIs w) := by
  obtain ⟨A, c, rfl, hlc, hcm⟩ := h.shape
  obtain ⟨A2, c2, rfl, hlc2, hcm2⟩ := hp.shape
  unfold maxLen at hcm hcm2
  have hE0 : Ext w (w.alloc (.cells #[.int .u8 0, .int .u32 0, .int .u32 0, .slice none 0 0, .slice none 0 0, .slice none 0 0, .bool false] 30)) := (Keep.refl _ _).alloc _
  have hb := Blk.new w 30 #[.int .u8 0, .int .u32 0, .int .u32 0, .slice none 0 0, .slice none 0 0, .slice none 0 0, .bool false]
  obtain ⟨W0, hW0⟩ : ∃ W0, w.alloc (.cells #[.int .u8 0, .int .u32 0, .int .u32 0, .slice none 0 0, .slice none 0 0, .slice none 0 0, .bool false] 30) = W0 := ⟨_, rfl⟩
  rw [hW0] at hE0 hb
  have HA0 := hid (h.ext ETok.ok hE0)
  have HP0 := hid (hp.ext EStr.ok hE0)
  have HE0 := hid hE0
  have q0 := hb.cell 0
  have q1 := hb.cell 1
  have q2 := hb.cell 2
  have q3 := hb.cell 3
  have q4 := hb.cell 4
  have q5 := hb.cell 5
  have q6 := hb.cell 6
  simp only [List.getElem?_toArray, List.getElem?_cons_succ, List.getElem?_cons_zero] at q0 q1 q2 q3 q4 q5 q6
  clear h hp hE0 hb
  generalize hn : ts.length = n at *
  generalize hm : p.length = m at *
  have HN := hid (And.intro hn hm)
  clear hn hm
  go_enter Tryd.func8, Tryd.ntmps8
  go_wp2_with fail
  refine (heavy10_nil W0).mono ?_
  rintro e w1 ⟨rfl, hE⟩
  have HA := hid (HA0.out.ext ETok.ok hE)
  have HP := hid (HP0.out.ext EStr.ok hE)
  have HE := hid (HE0.out.ext hE)
  clear hE hW0 q0 q1 q2 q3 q4 q5 q6
  go_wp2
  go_loop [7, 8] (fun y i => ∃ (z : Int) (j : Nat), y = .int .i64 z ∧ j ≤ n ∧ i = .int .i64 j) (fun _ i => n - (intOf i).toNat)
  case atStart => exact ⟨0, 0, rfl, by omega, rfl⟩
  case round =>
    obtain ⟨z, j, rfl, hj, rfl⟩ := hrel
    by_cases hlt : j < n
    · obtain ⟨b1, o1, c0, rfl, _, _, hrd, hcell⟩ := HA.out.at_ ETok.ok (k := j) (by rw [HN.out.1]; exact hlt)
      generalize ts[j]'(by rw [HN.out.1]; exact hlt) = t at *
      obtain rfl : c0 = [U8 t.kind, .int .i64 t.n, .string t.s, U8 t.many] := hrd
      have e2 := hcell 2 _ rfl
      have hz : ETok.size = 4 := rfl
      simp only [hz] at e2
      clear hcell hz
      go_wp2
      go_round
      case rel => exact ⟨_, j + 1, rfl, by omega, by go_num⟩
      case measure => simp [intOf]; omega
    · obtain rfl : j = n := by omega
      go_wp2
      go_loop [7, 9] (fun y i => ∃ (z : Int) (j : Nat), y = .int .i64 z ∧ j ≤ m ∧ i = .int .i64 j) (fun _ i => m - (intOf i).toNat)
      case atStart => exact ⟨z, 0, rfl, by omega, rfl⟩
      case round =>
        obtain ⟨z2, i, rfl, hj, rfl⟩ := hrel
        by_cases hlt : i < m
        · obtain ⟨b1, o1, c0, rfl, _, _, hrd, hcell⟩ := HP.out.at_ EStr.ok (k := i) (by rw [HN.out.2]; exact hlt)
          generalize p[i]'(by rw [HN.out.2]; exact hlt) = t at *
          obtain rfl : c0 = [.string t] := hrd
          have e2 := hcell 0 _ rfl
          have hz : EStr.size = 1 := rfl
          simp only [hz, Nat.mul_one, Nat.add_zero] at e2
          clear hcell hz
          go_wp2
          go_round
          case rel => exact ⟨_, i + 1, rfl, by omega, by go_num⟩
          case measure => simp [intOf]; omega
        · obtain rfl : i = m := by omega
          by_cases g1 : 5000 < z2
          · go_wp2
            go_ret
            exact ⟨_, rfl, HE.out⟩
          · go_wp2
            go_ret
            exact ⟨_, rfl, HE.out⟩
end Go.Proofs.YtggkidnlmaindaaDoor
