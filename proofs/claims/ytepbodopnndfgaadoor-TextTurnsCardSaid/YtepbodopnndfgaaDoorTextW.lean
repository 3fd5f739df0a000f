/- The reference's Same at flat components; the law's far, below, comp. -/
import Derived.Test.YtepbodopnndfgaaDoorTextK
import Derived.Test.YtepbodopnndfgaaDoorTextV
set_option linter.unusedSimpArgs false
set_option linter.unusedVariables false
namespace Go.Proofs.YtepbodopnndfgaaDoor
open Go.RowKit
set_option linter.unusedVariables false

set_option maxHeartbeats 1600000 in
theorem zero_same (w : World) : Calls Tryd.prog 13 #[.agg #[U8 0, .int .i64 0, .string ⟨#[]⟩, .slice none 0 0, .slice none 0 0], .agg #[U8 0, .int .i64 0, .string ⟨#[]⟩, .slice none 0 0, .slice none 0 0]] w fun e w' => e = .returned (.bool true) ∧ Ext w w' := by
  obtain ⟨W0, hW0⟩ : ∃ W0, (w.alloc (.cells #[U8 0, .int .i64 0, .string ⟨#[]⟩, .slice none 0 0, .slice none 0 0] TVAL)).alloc (.cells #[U8 0, .int .i64 0, .string ⟨#[]⟩, .slice none 0 0, .slice none 0 0] TVAL) = W0 := ⟨_, rfl⟩
  have hE0 : Ext w W0 := by rw [← hW0]; exact ((Keep.refl _ _).alloc _).alloc _
  have ha : Blk W0 w.heap.size TVAL #[U8 0, .int .i64 0, .string ⟨#[]⟩, .slice none 0 0, .slice none 0 0] := by rw [← hW0]; exact (Blk.new w TVAL _).alloc _
  have hb : Blk W0 (w.heap.size + 1) TVAL #[U8 0, .int .i64 0, .string ⟨#[]⟩, .slice none 0 0, .slice none 0 0] := by
    have := Blk.new (w.alloc (.cells #[U8 0, .int .i64 0, .string ⟨#[]⟩, .slice none 0 0, .slice none 0 0] TVAL)) TVAL #[U8 0, .int .i64 0, .string ⟨#[]⟩, .slice none 0 0, .slice none 0 0]
    rw [World.size_alloc] at this
    rw [← hW0]; exact this
  have a0 := ha.cell 0
  have a1 := ha.cell 1
  have a2 := ha.cell 2
  have a3 := ha.cell 3
  have a4 := ha.cell 4
  have b0 := hb.cell 0
  have b1 := hb.cell 1
  have b2 := hb.cell 2
  have b3 := hb.cell 3
  have b4 := hb.cell 4
  simp only [List.getElem?_toArray, List.getElem?_cons_succ, List.getElem?_cons_zero] at a0 a1 a2 a3 a4 b0 b1 b2 b3 b4
  have HE := hid hE0
  clear ha hb hE0
  go_enter Tryd.func13, Tryd.ntmps13
  go_wp2_with fail
  go_loopw [5] (fun y w' => y = .int .i64 0 ∧ w' = W0) (fun y _ => 0)
  case atStart => exact ⟨rfl, rfl⟩
  case round =>
    obtain ⟨rfl, rfl⟩ := hrel
    go_wp2_with fail
    go_loopw [7] (fun y w' => y = .int .i64 0 ∧ w' = wr) (fun y _ => 0)
    case atStart => exact ⟨rfl, rfl⟩
    case round =>
      obtain ⟨rfl, rfl⟩ := hrel
      go_wp2
      go_ret
      exact ⟨rfl, HE.out⟩
/-- A truth; where it is false, p. -/
def BoolIs (p : Prop) (w : World) (e : Ending) (w' : World) : Prop := ∃ b : Bool, e = .returned (.bool b) ∧ (b = false → p) ∧ Ext w w'
/-- What is looked at. -/
def CutOk (i n : Int) (s : ByteArray) : Prop := -1073741824 ≤ i ∧ i ≤ 1073741824 ∧ -1073741824 ≤ n ∧ n ≤ 1073741824 ∧ s.size ≤ 300
set_option maxHeartbeats 1600000 in
theorem far_any (d : Bool) (i n : Int) (s : ByteArray) (hs : s.size ≤ 140737488355328) (w : World) : Calls Tryd.prog 4 #[.agg #[.bool d, .int .i64 i, .int .i64 n, .string s]] w (BoolIs (CutOk i n s) w) := by
  have hE : Ext w (w.alloc (.cells #[.bool d, .int .i64 i, .int .i64 n, .string s] 23)) := (Keep.refl _ _).alloc _
  have HE := hid hE
  clear hE
  by_cases h1 : (1073741824 : Int) < i
  · go_enter Tryd.func4, Tryd.ntmps4
    go_wp2
    go_ret
    exact ⟨true, rfl, (fun h => Bool.noConfusion h), HE.out⟩
  by_cases h2 : i < (-1073741824 : Int)
  · go_enter Tryd.func4, Tryd.ntmps4
    go_wp2
    go_ret
    exact ⟨true, rfl, (fun h => Bool.noConfusion h), HE.out⟩
  by_cases h3 : (1073741824 : Int) < n
  · go_enter Tryd.func4, Tryd.ntmps4
    go_wp2
    go_ret
    exact ⟨true, rfl, (fun h => Bool.noConfusion h), HE.out⟩
  by_cases h4 : n < (-1073741824 : Int)
  · go_enter Tryd.func4, Tryd.ntmps4
    go_wp2
    go_ret
    exact ⟨true, rfl, (fun h => Bool.noConfusion h), HE.out⟩
  have HH := hid (And.intro h1 (And.intro h2 (And.intro h3 h4)))
  by_cases h5 : (300 : Int) < s.size
  · go_enter Tryd.func4, Tryd.ntmps4
    go_wp2
    go_ret
    exact ⟨true, by simp [h5], (fun h => Bool.noConfusion h), HE.out⟩
  · go_enter Tryd.func4, Tryd.ntmps4
    go_wp2
    go_ret
    exact ⟨false, by simp [h5], fun _ => by obtain ⟨a, b, c, d⟩ := HH.out; exact ⟨by omega, by omega, by omega, by omega, by omega⟩, HE.out⟩
set_option maxHeartbeats 1600000 in
theorem below_any (d : Bool) (i n : Int) (s : ByteArray) (w : World) : Calls Tryd.prog 5 #[.agg #[.bool d, .int .i64 i, .int .i64 n, .string s]] w (BoolIs (0 ≤ i ∧ 0 ≤ n) w) := by
  have hE : Ext w (w.alloc (.cells #[.bool d, .int .i64 i, .int .i64 n, .string s] 23)) := (Keep.refl _ _).alloc _
  have HE := hid hE
  clear hE
  by_cases h1 : i < 0
  · go_enter Tryd.func5, Tryd.ntmps5
    go_wp2
    go_ret
    exact ⟨true, rfl, (fun h => Bool.noConfusion h), HE.out⟩
  have H1 := hid h1
  by_cases h2 : n < 0
  · go_enter Tryd.func5, Tryd.ntmps5
    go_wp2
    go_ret
    exact ⟨true, by simp [h2], (fun h => Bool.noConfusion h), HE.out⟩
  · have H2 := hid h2
    go_enter Tryd.func5, Tryd.ntmps5
    go_wp2
    go_ret
    exact ⟨false, by simp [h2], fun _ => by first | trivial | exact ⟨by have := H1.out; omega, by have := H2.out; omega⟩, HE.out⟩

/-- What 'comp' makes of a cut. -/
def compV (d : Bool) (i n : Int) (s : ByteArray) : Value := if d = true then zc 9 i n ⟨#[]⟩ else zc 8 i 0 s
set_option maxHeartbeats 1600000 in
theorem comp_any (d : Bool) (i n : Int) (s : ByteArray) (w : World) : Calls Tryd.prog 7 #[.agg #[.bool d, .int .i64 i, .int .i64 n, .string s]] w fun e w' => e = .returned (compV d i n s) ∧ Ext w w' := by
  cases d
  · have hE : Ext w ((w.alloc (.cells #[.bool false, .int .i64 i, .int .i64 n, .string s] 23)).alloc (.cells #[.int .u8 8, .slice none 0 0, .string ⟨#[]⟩, .int .i64 i, .int .i64 0, .int .i64 0, .int .u8 0, .int .i64 0, .string ⟨#[]⟩, .slice none 0 0, .slice none 0 0, .string s] TCOMP)) := ((Keep.refl _ _).alloc _).alloc _
    have HE := hid hE
    clear hE
    go_enter Tryd.func7, Tryd.ntmps7
    go_wp2
    refine bodyPost_ret (v := zc 8 i 0 s) (by simp [results, Tryd.results7, go_sem]) rfl ⟨rfl, HE.out⟩
  · have hE : Ext w ((w.alloc (.cells #[.bool true, .int .i64 i, .int .i64 n, .string s] 23)).alloc (.cells #[.int .u8 9, .slice none 0 0, .string ⟨#[]⟩, .int .i64 i, .int .i64 0, .int .i64 n, .int .u8 0, .int .i64 0, .string ⟨#[]⟩, .slice none 0 0, .slice none 0 0, .string ⟨#[]⟩] TCOMP)) := ((Keep.refl _ _).alloc _).alloc _
    have HE := hid hE
    clear hE
    go_enter Tryd.func7, Tryd.ntmps7
    go_wp2
    refine bodyPost_ret (v := zc 9 i n ⟨#[]⟩) (by simp [results, Tryd.results7, go_sem]) rfl ⟨rfl, HE.out⟩

set_option maxRecDepth 100000 in
set_option maxHeartbeats 6400000 in
theorem same04_zt (k : UInt8) (s : ByteArray) (l : List (Int × Int)) (u v : Value) (S1 S2 : BS) (w : World) (hu : Sl (ZT k s) w S1 u l) (hv : Sl (ZT k s) w S2 v l) :
    Calls Tryd.prog 8 #[u, v] w fun e w' => e = .returned (.bool true) ∧ Ext w w' := by
  obtain ⟨A1, c1, rfl, hc1, hm1⟩ := hu.shape
  obtain ⟨A2, c2, rfl, hc2, hm2⟩ := hv.shape
  unfold maxLen at hm1
  have HU := hid hu
  have HV := hid hv
  have enn : ((l.length : Int) == l.length) = true := by simp
  clear hu hv
  go_enter Tryd.func8, Tryd.ntmps8
  go_wp2_with fail
  go_loopw [5] (fun y wr => ∃ (j : Nat), j ≤ l.length ∧ y = .int .i64 j ∧ Ext w wr) (fun y _ => l.length - (intOf y).toNat)
  case atStart => exact ⟨0, by omega, rfl, Keep.refl _ _⟩
  case round =>
    obtain ⟨j, hj, rfl, hr⟩ := hrel
    by_cases hlt : j < l.length
    · obtain ⟨b1, f1, d1, rfl, _, _, hr1, hc1'⟩ := (HU.out.ext (ZT.ok k s) hr).at_ (ZT.ok k s) hlt
      obtain ⟨b2, f2, d2, rfl, _, _, hr2, hc2'⟩ := (HV.out.ext (ZT.ok k s) hr).at_ (ZT.ok k s) hlt
      generalize hcj : l[j] = x at *
      have hr1 : d1 = _ := hr1
      have hr2 : d2 = _ := hr2
      subst hr1 hr2
      have hz : (ZT k s).size = 12 := rfl
      have p0 := hc1' 0 _ rfl
      have q0 := hc2' 0 _ rfl
      have p1 := hc1' 1 _ rfl
      have q1 := hc2' 1 _ rfl
      have p2 := hc1' 2 _ rfl
      have q2 := hc2' 2 _ rfl
      have p3 := hc1' 3 _ rfl
      have q3 := hc2' 3 _ rfl
      have p4 := hc1' 4 _ rfl
      have q4 := hc2' 4 _ rfl
      have p5 := hc1' 5 _ rfl
      have q5 := hc2' 5 _ rfl
      have p6 := hc1' 6 _ rfl
      have q6 := hc2' 6 _ rfl
      have p7 := hc1' 7 _ rfl
      have q7 := hc2' 7 _ rfl
      have p8 := hc1' 8 _ rfl
      have q8 := hc2' 8 _ rfl
      have p9 := hc1' 9 _ rfl
      have q9 := hc2' 9 _ rfl
      have p10 := hc1' 10 _ rfl
      have q10 := hc2' 10 _ rfl
      have p11 := hc1' 11 _ rfl
      have q11 := hc2' 11 _ rfl
      simp only [hz, Nat.add_zero] at p0 p1 p2 p3 p4 p5 p6 p7 p8 p9 p10 p11 q0 q1 q2 q3 q4 q5 q6 q7 q8 q9 q10 q11
      obtain ⟨W0, hW0⟩ : ∃ W0, (wr.alloc (.cells #[.int .u8 k.toNat, .slice none 0 0, .string ⟨#[]⟩, .int .i64 x.1, .int .i64 0, .int .i64 x.2, .int .u8 0, .int .i64 0, .string ⟨#[]⟩, .slice none 0 0, .slice none 0 0, .string s] TCOMP)).alloc (.cells #[.int .u8 k.toNat, .slice none 0 0, .string ⟨#[]⟩, .int .i64 x.1, .int .i64 0, .int .i64 x.2, .int .u8 0, .int .i64 0, .string ⟨#[]⟩, .slice none 0 0, .slice none 0 0, .string s] TCOMP) = W0 := ⟨_, rfl⟩
      have hE0 : Ext wr W0 := by rw [← hW0]; exact ((Keep.refl _ _).alloc _).alloc _
      have ha : Blk W0 wr.heap.size TCOMP (tcA (U8 k) (.slice none 0 0) (.string ⟨#[]⟩) x.1 (.int .i64 0) x.2 (U8 0) (.int .i64 0) (.string ⟨#[]⟩) (.slice none 0 0) (.slice none 0 0) (.string s)) := by rw [← hW0]; exact (Blk.new wr TCOMP _).alloc _
      have hb : Blk W0 (wr.heap.size + 1) TCOMP (tcA (U8 k) (.slice none 0 0) (.string ⟨#[]⟩) x.1 (.int .i64 0) x.2 (U8 0) (.int .i64 0) (.string ⟨#[]⟩) (.slice none 0 0) (.slice none 0 0) (.string s)) := by
        have := Blk.new (wr.alloc (.cells (tcA (U8 k) (.slice none 0 0) (.string ⟨#[]⟩) x.1 (.int .i64 0) x.2 (U8 0) (.int .i64 0) (.string ⟨#[]⟩) (.slice none 0 0) (.slice none 0 0) (.string s)) TCOMP)) TCOMP (tcA (U8 k) (.slice none 0 0) (.string ⟨#[]⟩) x.1 (.int .i64 0) x.2 (U8 0) (.int .i64 0) (.string ⟨#[]⟩) (.slice none 0 0) (.slice none 0 0) (.string s))
        rw [World.size_alloc] at this
        rw [← hW0]; exact this
      obtain ⟨a0, a1, a2, a3, a4, a5, a6, a7, a8, a9, a10, a11⟩ := blk12 ha
      obtain ⟨b0, b1', b2', b3, b4, b5, b6, b7, b8, b9, b10, b11⟩ := blk12 hb
      have HR := hid (hr.ext hE0)
      have HA := hid ha
      have hjX : (j : Int) < l.length := by omega
      have ex1 : (x.1 == x.1) = true := by simp
      have ex2 : (x.2 == x.2) = true := by simp
      clear hc1' hc2' hcj hz hr hE0 ha hb
      go_wp2_with fail
      refine (zero_same W0).mono ?_
      rintro e w5 ⟨rfl, hE5⟩
      have c1 := (HA.out.keep hE5 id).cell 1
      simp only [List.getElem?_toArray, List.getElem?_cons_succ, List.getElem?_cons_zero] at c1
      have HR5 := hid (HR.out.ext hE5)
      clear hE5 a0 a1 a2 a3 a4 a5 a6 a7 a8 a9 a10 a11 b0 b1' b2' b3 b4 b5 b6 b7 b8 b9 b10 b11 p0 p1 p2 p3 p4 p5 p6 p7 p8 p9 p10 p11 q0 q1 q2 q3 q4 q5 q6 q7 q8 q9 q10 q11 hW0
      go_wp2_with fail
      go_loopw [9] (fun y w' => y = .int .i64 0 ∧ w' = w5) (fun y _ => 0)
      case atStart => exact ⟨rfl, rfl⟩
      case round =>
        obtain ⟨rfl, rfl⟩ := hrel
        go_wp2
        exact ⟨⟨j + 1, by omega, by go_num, HR5.out⟩, by simp [intOf]; omega⟩
    · obtain rfl : j = l.length := by omega
      have HR := hid hr
      clear hr
      go_wp2
      go_ret
      exact ⟨rfl, HR.out⟩
end Go.Proofs.YtepbodopnndfgaaDoor
