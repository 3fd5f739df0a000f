/- val.Same at any two values. -/
import Derived.Test.YtaemmabaekjkeaaDoorRefSameAny
set_option linter.unusedSimpArgs false
set_option linter.unusedVariables false
namespace Go.Proofs.YtaemmabaekjkeaaDoor
open Go.RowKit
set_option linter.unusedVariables false

theorem blk5' {w : World} {b : Nat} {T : TypeId} {a0 a1 a2 a3 a4 : Value} (h : Blk w b T #[a0, a1, a2, a3, a4]) : w.cell? ⟨b, 0, none⟩ = some a0 ∧ w.cell? ⟨b, 1, none⟩ = some a1 ∧ w.cell? ⟨b, 2, none⟩ = some a2 ∧ w.cell? ⟨b, 3, none⟩ = some a3 ∧ w.cell? ⟨b, 4, none⟩ = some a4 :=
  ⟨h.cell 0, h.cell 1, h.cell 2, h.cell 3, h.cell 4⟩
/-- val.Same at one value on the left. -/
def SameAt (y : V) : Prop := ∀ (y' : V) (b : Bool), (b = true ↔ y = y') → ∀ (u v : Value) (S1 S2 : BS) (w : World), VAt w S1 u y → VAt w S2 v y' →
    Calls Tryd.prog 20 #[u, v] w fun e w' => e = .returned (.bool b) ∧ Ext w w'
abbrev sameF : Value := .func (.func 20) #[] #[]
abbrev same1F : Value := .func (.func 34) #[] #[]
set_option maxHeartbeats 6400000 in
theorem eqf_val (xs ys : List V) (b : Bool) (hb : b = true ↔ xs = ys) (hs : ∀ y ∈ xs, SameAt y) (v1 v2 : Value) (S1 S2 : BS) (w : World) (h1 : Sl EVal w S1 v1 xs) (h2 : Sl EVal w S2 v2 ys) :
    Calls Tryd.prog 32 #[v1, v2, sameF] w fun e w' => e = .returned (.bool b) ∧ Ext w w' := by
  obtain ⟨A1, c1, rfl, hc1, hm1⟩ := h1.shape
  obtain ⟨A2, c2, rfl, hc2, hm2⟩ := h2.shape
  unfold maxLen at hm1 hm2
  have H1 := hid h1
  have H2 := hid h2
  have HS := hid hs
  have HB := hid hb
  have hno : xs ≠ ys → b = false := fun h => by
    cases b with
    | false => rfl
    | true => exact absurd (hb.1 rfl) h
  have HNO := hid hno
  generalize hnl : ys.length = nl at *
  have HNL := hid hnl
  clear h1 h2 hs hb hno hnl
  by_cases g4 : nl = xs.length
  · subst g4
    have e4 : ((xs.length : Int) != xs.length) = false := by simp
    go_enter Tryd.func32, Tryd.ntmps32
    go_wp2
    clear e4
    go_loopw [17] (fun y wr => ∃ (j : Nat), j ≤ xs.length ∧ y = .int .i64 j ∧ xs.take j = ys.take j ∧ Ext w wr) (fun y _ => xs.length - (intOf y).toNat)
    case atStart => exact ⟨0, by omega, rfl, rfl, Keep.refl _ _⟩
    case round =>
      obtain ⟨j, hj, rfl, htk, hr⟩ := hrel
      have HTK := hid htk
      have HR := hid hr
      clear hr htk
      by_cases hlt : j < xs.length
      · have hlt2 : j < ys.length := by rw [HNL.out]; exact hlt
        obtain ⟨b1, f1, d1, rfl, hb1, hs1, hr1, hc1'⟩ := (H1.out.ext EVal.ok HR.out).at_ EVal.ok hlt
        obtain ⟨b2, f2, d2, rfl, hb2, hs2, hr2, hc2'⟩ := (H2.out.ext EVal.ok HR.out).at_ EVal.ok hlt2
        obtain ⟨Ay1, _, cy1, Ay2, _, cy2, rfl, rfl, rfl, hva⟩ := EVal_cells hr1
        obtain ⟨Ax1, _, cx1, Ax2, _, cx2, rfl, rfl, rfl, hvb⟩ := EVal_cells hr2
        have p0 := hc1' 0 _ rfl
        have q0 := hc2' 0 _ rfl
        have p1 := hc1' 1 _ rfl
        have q1 := hc2' 1 _ rfl
        have p2 := hc1' 2 _ rfl
        have q2 := hc2' 2 _ rfl
        have p3 := hc1' 3 _ rfl
        have q3 := hc2' 3 _ rfl
        have p4 := hc1' 4 _ rfl
        have q4 := hc2' 4 _ rfl
        have e5' : EVal.size = 5 := rfl
        simp only [e5', Nat.add_zero] at p0 p1 p2 p3 p4 q0 q1 q2 q3 q4
        obtain ⟨bj, hbj⟩ := em_bool (xs[j] = ys[j])
        have HVA := hid hva
        have HVB := hid hvb
        have HS1 := hid (HS.out xs[j] (List.getElem_mem hlt))
        have HBJ := hid hbj
        have HN1 := hid (show xs[j] = ys[j] → xs.take (j + 1) = ys.take (j + 1) from fun h => by rw [take_succ_get _ _ hlt, take_succ_get _ _ hlt2, HTK.out, h])
        have HN0 := hid (show xs[j] ≠ ys[j] → b = false from fun h => HNO.out fun e => h (by subst e; rfl))
        clear hc1' hc2' hr1 hr2 hva hvb e5' hb1 hb2 hbj HTK
        generalize xs[j] = y at *
        generalize ys[j] = y' at *
        have hX : Ext wr ((wr.alloc (.cells #[U8 y.kind, .int .i64 y.n, .string y.s, .slice Ay1 y.l.length cy1, .slice Ay2 y.o.length cy2] TVAL)).alloc (.cells #[U8 y'.kind, .int .i64 y'.n, .string y'.s, .slice Ax1 y'.l.length cx1, .slice Ax2 y'.o.length cx2] TVAL)) := ((Keep.refl _ _).alloc _).alloc _
        have HC := hid (HS1.out y' bj HBJ.out _ _ _ _ _ (VAt.ext HVA.out hX) (VAt.ext HVB.out hX))
        have HX := hid (HR.out.ext hX)
        have b0x := (Blk.new wr TVAL #[U8 y.kind, .int .i64 y.n, .string y.s, .slice Ay1 y.l.length cy1, .slice Ay2 y.o.length cy2]).alloc (.cells #[U8 y'.kind, .int .i64 y'.n, .string y'.s, .slice Ax1 y'.l.length cx1, .slice Ax2 y'.o.length cx2] TVAL)
        have b1x := Blk.new (wr.alloc (.cells #[U8 y.kind, .int .i64 y.n, .string y.s, .slice Ay1 y.l.length cy1, .slice Ay2 y.o.length cy2] TVAL)) TVAL #[U8 y'.kind, .int .i64 y'.n, .string y'.s, .slice Ax1 y'.l.length cx1, .slice Ax2 y'.o.length cx2]
        clear hX HVA HVB b0x b1x
        go_wp2_with fail
        refine HC.out.mono ?_
        rintro e w4 ⟨rfl, hE4⟩
        have HC4 := hid (HX.out.ext hE4)
        clear hE4 p0 p1 p2 p3 p4 q0 q1 q2 q3 q4 HC
        cases bj with
        | true =>
          have HN := hid (HN1.out (HBJ.out.1 rfl))
          go_wp2
          go_roundw
          case rel => exact ⟨j + 1, by omega, by go_num, HN.out, HC4.out⟩
          case measure => simp [intOf]; omega
        | false =>
          have HN := hid (HN0.out fun h => by have := HBJ.out.2 h; cases this)
          go_wp2
          go_ret
          exact ⟨by rw [HN.out]; first | rfl | simp, HC4.out⟩
      · obtain rfl : j = xs.length := by omega
        have HLL := hid (HB.out.2 (show xs = ys from by have := HTK.out; rwa [List.take_length, ← HNL.out, List.take_length] at this))
        clear HTK
        go_wp2
        go_ret
        exact ⟨by rw [HLL.out]; first | rfl | simp, HR.out⟩
  · have HBB := hid (HNO.out fun e => g4 (by rw [← HNL.out, e]))
    have e4 : ((xs.length : Int) != nl) = true := by simp; omega
    go_enter Tryd.func32, Tryd.ntmps32
    go_wp2
    go_ret
    exact ⟨by rw [HBB.out]; first | rfl | simp, Keep.refl _ _⟩
set_option maxHeartbeats 3200000 in
theorem same1_ok (y y' : F) (b : Bool) (hb : b = true ↔ y = y') (hs : SameAt y.v) (A1 A2 A3 A4 : Option Addr) (c1 c2 c3 c4 : Nat) (S1 S2 : BS) (w : World)
    (h1 : VAt w S1 (.agg #[U8 y.v.kind, .int .i64 y.v.n, .string y.v.s, .slice A1 y.v.l.length c1, .slice A2 y.v.o.length c2]) y.v) (h2 : VAt w S2 (.agg #[U8 y'.v.kind, .int .i64 y'.v.n, .string y'.v.s, .slice A3 y'.v.l.length c3, .slice A4 y'.v.o.length c4]) y'.v) :
    Calls Tryd.prog 34 #[.agg #[.string y.key, U8 y.v.kind, .int .i64 y.v.n, .string y.v.s, .slice A1 y.v.l.length c1, .slice A2 y.v.o.length c2], .agg #[.string y'.key, U8 y'.v.kind, .int .i64 y'.v.n, .string y'.v.s, .slice A3 y'.v.l.length c3, .slice A4 y'.v.o.length c4]] w fun e w' => e = .returned (.bool b) ∧ Ext w w' := by
  have hX : Ext w ((w.alloc (.cells #[.string y.key, U8 y.v.kind, .int .i64 y.v.n, .string y.v.s, .slice A1 y.v.l.length c1, .slice A2 y.v.o.length c2] TFIELD)).alloc (.cells #[.string y'.key, U8 y'.v.kind, .int .i64 y'.v.n, .string y'.v.s, .slice A3 y'.v.l.length c3, .slice A4 y'.v.o.length c4] TFIELD)) := ((Keep.refl _ _).alloc _).alloc _
  have HX := hid hX
  by_cases gk : y.key = y'.key
  · obtain ⟨bj, hbj⟩ := em_bool (y.v = y'.v)
    have HC := hid (hs y'.v bj hbj _ _ S1 S2 _ (VAt.ext h1 hX) (VAt.ext h2 hX))
    have HB := hid (show b = bj from by
      rw [Bool.eq_iff_iff, hb, hbj]
      exact ⟨fun h => by rw [h], fun h => F.ext' gk h⟩)
    rw [← gk] at HC HX ⊢
    clear h1 h2 hs hb hbj hX gk
    have gk2 : (y.key.toList == y.key.toList) = true := by simp
    go_enter Tryd.func34, Tryd.ntmps34
    go_wp2_with fail
    refine HC.out.mono ?_
    rintro e w4 ⟨rfl, hE4⟩
    have HE4 := hid (HX.out.ext hE4)
    clear hE4 HC
    go_wp2
    go_ret
    exact ⟨by rw [HB.out]; first | rfl | simp, HE4.out⟩
  · have HB := hid (show b = false from by
      cases b with
      | false => rfl
      | true => exact absurd (by rw [hb.1 rfl]) gk)
    have gk2 : ¬ y.key.toList = y'.key.toList := fun e => gk (key_eq e)
    have gk3 : (y.key.toList == y'.key.toList) = false := by simpa using gk2
    clear h1 h2 hs hb hX gk
    go_enter Tryd.func34, Tryd.ntmps34
    go_wp2
    go_ret
    exact ⟨by rw [HB.out]; first | rfl | simp, HX.out⟩
set_option maxHeartbeats 6400000 in
theorem eqf_field (xs ys : List F) (b : Bool) (hb : b = true ↔ xs = ys) (hs : ∀ y ∈ xs, SameAt y.v) (v1 v2 : Value) (S1 S2 : BS) (w : World) (h1 : Sl EField w S1 v1 xs) (h2 : Sl EField w S2 v2 ys) :
    Calls Tryd.prog 33 #[v1, v2, same1F] w fun e w' => e = .returned (.bool b) ∧ Ext w w' := by
  obtain ⟨A1, c1, rfl, hc1, hm1⟩ := h1.shape
  obtain ⟨A2, c2, rfl, hc2, hm2⟩ := h2.shape
  unfold maxLen at hm1 hm2
  have H1 := hid h1
  have H2 := hid h2
  have HS := hid hs
  have HB := hid hb
  have hno : xs ≠ ys → b = false := fun h => by
    cases b with
    | false => rfl
    | true => exact absurd (hb.1 rfl) h
  have HNO := hid hno
  generalize hnl : ys.length = nl at *
  have HNL := hid hnl
  clear h1 h2 hs hb hno hnl
  by_cases g4 : nl = xs.length
  · subst g4
    have e4 : ((xs.length : Int) != xs.length) = false := by simp
    go_enter Tryd.func33, Tryd.ntmps33
    go_wp2
    clear e4
    go_loopw [17] (fun y wr => ∃ (j : Nat), j ≤ xs.length ∧ y = .int .i64 j ∧ xs.take j = ys.take j ∧ Ext w wr) (fun y _ => xs.length - (intOf y).toNat)
    case atStart => exact ⟨0, by omega, rfl, rfl, Keep.refl _ _⟩
    case round =>
      obtain ⟨j, hj, rfl, htk, hr⟩ := hrel
      have HTK := hid htk
      have HR := hid hr
      clear hr htk
      by_cases hlt : j < xs.length
      · have hlt2 : j < ys.length := by rw [HNL.out]; exact hlt
        obtain ⟨b1, f1, d1, rfl, hb1, hs1, hr1, hc1'⟩ := (H1.out.ext EField.ok HR.out).at_ EField.ok hlt
        obtain ⟨b2, f2, d2, rfl, hb2, hs2, hr2, hc2'⟩ := (H2.out.ext EField.ok HR.out).at_ EField.ok hlt2
        obtain ⟨_, _, rfl, ⟨Ay1, cy1, rfl⟩, ⟨Ay2, cy2, rfl⟩, hva⟩ := EField_cells hr1
        obtain ⟨_, _, rfl, ⟨Ax1, cx1, rfl⟩, ⟨Ax2, cx2, rfl⟩, hvb⟩ := EField_cells hr2
        have p0 := hc1' 0 _ rfl
        have q0 := hc2' 0 _ rfl
        have p1 := hc1' 1 _ rfl
        have q1 := hc2' 1 _ rfl
        have p2 := hc1' 2 _ rfl
        have q2 := hc2' 2 _ rfl
        have p3 := hc1' 3 _ rfl
        have q3 := hc2' 3 _ rfl
        have p4 := hc1' 4 _ rfl
        have q4 := hc2' 4 _ rfl
        have p5 := hc1' 5 _ rfl
        have q5 := hc2' 5 _ rfl
        have e5' : EField.size = 6 := rfl
        simp only [e5', Nat.add_zero] at p0 p1 p2 p3 p4 p5 q0 q1 q2 q3 q4 q5
        obtain ⟨bj, hbj⟩ := em_bool (xs[j] = ys[j])
        have HVA := hid hva
        have HVB := hid hvb
        have HS1 := hid (HS.out xs[j] (List.getElem_mem hlt))
        have HBJ := hid hbj
        have HN1 := hid (show xs[j] = ys[j] → xs.take (j + 1) = ys.take (j + 1) from fun h => by rw [take_succ_get _ _ hlt, take_succ_get _ _ hlt2, HTK.out, h])
        have HN0 := hid (show xs[j] ≠ ys[j] → b = false from fun h => HNO.out fun e => h (by subst e; rfl))
        clear hc1' hc2' hr1 hr2 hva hvb e5' hb1 hb2 hbj HTK
        generalize xs[j] = y at *
        generalize ys[j] = y' at *
        have hX : Ext wr ((wr.alloc (.cells #[.string y.key, U8 y.v.kind, .int .i64 y.v.n, .string y.v.s, .slice Ay1 y.v.l.length cy1, .slice Ay2 y.v.o.length cy2] TFIELD)).alloc (.cells #[.string y'.key, U8 y'.v.kind, .int .i64 y'.v.n, .string y'.v.s, .slice Ax1 y'.v.l.length cx1, .slice Ax2 y'.v.o.length cx2] TFIELD)) := ((Keep.refl _ _).alloc _).alloc _
        have HC := hid (same1_ok y y' bj HBJ.out HS1.out _ _ _ _ _ _ _ _ _ _ _ (VAt.ext HVA.out hX) (VAt.ext HVB.out hX))
        have HX := hid (HR.out.ext hX)
        have b0x := (Blk.new wr TFIELD #[.string y.key, U8 y.v.kind, .int .i64 y.v.n, .string y.v.s, .slice Ay1 y.v.l.length cy1, .slice Ay2 y.v.o.length cy2]).alloc (.cells #[.string y'.key, U8 y'.v.kind, .int .i64 y'.v.n, .string y'.v.s, .slice Ax1 y'.v.l.length cx1, .slice Ax2 y'.v.o.length cx2] TFIELD)
        have b1x := Blk.new (wr.alloc (.cells #[.string y.key, U8 y.v.kind, .int .i64 y.v.n, .string y.v.s, .slice Ay1 y.v.l.length cy1, .slice Ay2 y.v.o.length cy2] TFIELD)) TFIELD #[.string y'.key, U8 y'.v.kind, .int .i64 y'.v.n, .string y'.v.s, .slice Ax1 y'.v.l.length cx1, .slice Ax2 y'.v.o.length cx2]
        clear hX HVA HVB b0x b1x
        go_wp2_with fail
        refine HC.out.mono ?_
        rintro e w4 ⟨rfl, hE4⟩
        have HC4 := hid (HX.out.ext hE4)
        clear hE4 p0 p1 p2 p3 p4 p5 q0 q1 q2 q3 q4 q5 HC
        cases bj with
        | true =>
          have HN := hid (HN1.out (HBJ.out.1 rfl))
          go_wp2
          go_roundw
          case rel => exact ⟨j + 1, by omega, by go_num, HN.out, HC4.out⟩
          case measure => simp [intOf]; omega
        | false =>
          have HN := hid (HN0.out fun h => by have := HBJ.out.2 h; cases this)
          go_wp2
          go_ret
          exact ⟨by rw [HN.out]; first | rfl | simp, HC4.out⟩
      · obtain rfl : j = xs.length := by omega
        have HLL := hid (HB.out.2 (show xs = ys from by have := HTK.out; rwa [List.take_length, ← HNL.out, List.take_length] at this))
        clear HTK
        go_wp2
        go_ret
        exact ⟨by rw [HLL.out]; first | rfl | simp, HR.out⟩
  · have HBB := hid (HNO.out fun e => g4 (by rw [← HNL.out, e]))
    have e4 : ((xs.length : Int) != nl) = true := by simp; omega
    go_enter Tryd.func33, Tryd.ntmps33
    go_wp2
    go_ret
    exact ⟨by rw [HBB.out]; first | rfl | simp, Keep.refl _ _⟩
set_option maxRecDepth 20000 in
set_option maxHeartbeats 12800000 in
theorem same_any : ∀ (m : Nat) (x : V), x.size ≤ m → SameAt x := by
  intro m
  induction m with
  | zero => intro x h; have := x.size_pos; omega
  | succ m ih =>
  intro x hsz y b hb u v S1 S2 w hu hv
  have hlen := V.size_eq x
  have HLM := hid (fun (z : V) (hz : z ∈ x.l) => ih z (by have := V.sizes_mem hz; omega))
  have HOM := hid (fun (z : F) (hz : z ∈ x.o) => ih z.v (by have := F.sizes_mem hz; omega))
  have hno : (x.kind ≠ y.kind ∨ x.n ≠ y.n ∨ x.s ≠ y.s ∨ x.l ≠ y.l ∨ x.o ≠ y.o) → b = false := fun h => by
    cases b with
    | false => rfl
    | true =>
      have e := hb.1 rfl
      subst e
      rcases h with h | h | h | h | h <;> exact absurd rfl h
  have hyes : x.kind = y.kind ∧ x.n = y.n ∧ x.s = y.s ∧ x.l = y.l ∧ x.o = y.o → b = true := fun ⟨h1, h2, h3, h4, h5⟩ => hb.2 (V.ext' h1 h2 h3 h4 h5)
  have HNO := hid hno
  have HYES := hid hyes
  clear ih hlen hsz hb hno hyes
  obtain ⟨l1, o1, rfl, h1, h2⟩ := hu
  obtain ⟨l2, o2, rfl, h3, h4⟩ := hv
  obtain ⟨A1, c1, rfl, hc1, hm1⟩ := h1.shape
  obtain ⟨A2, c2, rfl, hc2, hm2⟩ := h2.shape
  obtain ⟨A3, c3, rfl, _, _⟩ := h3.shape
  obtain ⟨A4, c4, rfl, _, _⟩ := h4.shape
  unfold maxLen at hm1 hm2
  generalize x.kind = k at *
  generalize x.n = n at *
  generalize x.s = s at *
  generalize x.l = xs at *
  generalize x.o = xo at *
  generalize y.kind = k' at *
  generalize y.n = n' at *
  generalize y.s = s' at *
  generalize y.l = ys at *
  generalize y.o = yo at *
  obtain ⟨hb0, hb1, hE⟩ := blk_pair w TVAL #[U8 k, .int .i64 n, .string s, .slice A1 xs.length c1, .slice A2 xo.length c2] #[U8 k', .int .i64 n', .string s', .slice A3 ys.length c3, .slice A4 yo.length c4]
  obtain ⟨bl, hbl⟩ := em_bool (xs = ys)
  obtain ⟨bo, hbo⟩ := em_bool (xo = yo)
  have HCL := hid (fun w1 (h : Ext w w1) => eqf_val xs ys bl hbl HLM.out _ _ S1 S2 w1 (h1.ext EVal.ok h) (h3.ext EVal.ok h))
  have HCO := hid (fun w1 (h : Ext w w1) => eqf_field xo yo bo hbo HOM.out _ _ S1 S2 w1 (h2.ext EField.ok h) (h4.ext EField.ok h))
  have HB0 := hid hb0
  have HB1 := hid hb1
  have HE := hid hE
  have HBL := hid hbl
  have HBO := hid hbo
  clear h1 h2 h3 h4 hb0 hb1 hE HLM HOM hbl hbo
  by_cases g1 : k = k'
  · subst g1
    have e1 : ((k.toNat : Int) == k.toNat) = true := by simp
    by_cases g2 : n = n'
    · subst g2
      have e2 : (n == n) = true := by simp
      by_cases g3 : s = s'
      · subst g3
        have e3 : (s.toList == s.toList) = true := by simp
        have HYES2 := hid (show xs = ys ∧ xo = yo → b = true from fun h => by
          have h2 := HYES.out
          simp only [h.1, h.2, true_and, and_self, and_true, forall_const, true_implies] at h2
          exact h2)
        clear HYES
        go_enter Tryd.func20, Tryd.ntmps20
        go_wp2_with fail
        refine (HCL.out _ HE.out).mono ?_
        rintro e w2 ⟨rfl, hE2⟩
        replace HE := hid (HE.out.ext hE2)
        replace HB0 := hid (HB0.out.keep hE2 id)
        replace HB1 := hid (HB1.out.keep hE2 id)
        clear hE2
        obtain ⟨q0, q1, q2, q3, q4⟩ := blk5' HB0.out
        obtain ⟨p0, p1, p2, p3, p4⟩ := blk5' HB1.out
        cases bl with
        | false =>
          have HB := hid (HNO.out (.inr (.inr (.inr (.inl fun e => by have := HBL.out.2 e; cases this)))))
          go_wp2
          go_ret
          exact ⟨by rw [HB.out]; first | rfl | simp, HE.out⟩
        | true =>
          go_wp2_with fail
          refine (HCO.out _ HE.out).mono ?_
          rintro e w3 ⟨rfl, hE3⟩
          have HE3 := hid (HE.out.ext hE3)
          have HB := hid (show bo = b from by
            cases bo with
            | true => exact (HYES2.out ⟨by first | exact HBL.out.1 rfl | exact HBL.out.1 trivial | exact HBL.out, by first | exact HBO.out.1 rfl | exact HBO.out.1 trivial | exact HBO.out⟩).symm
            | false => exact (HNO.out (.inr (.inr (.inr (.inr fun e => by have := HBO.out.2 e; cases this))))).symm)
          clear hE3 q0 q1 q2 q3 q4 p0 p1 p2 p3 p4
          go_wp2
          go_ret
          exact ⟨by rw [← HB.out]; first | rfl | simp, HE3.out⟩
      · have HB := hid (HNO.out (.inr (.inr (.inl g3))))
        have e3 : ¬ s.toList = s'.toList := fun e => g3 (key_eq e)
        have e3b : (s.toList == s'.toList) = false := by simpa using e3
        go_enter Tryd.func20, Tryd.ntmps20
        go_wp2
        go_ret
        exact ⟨by rw [HB.out]; first | rfl | simp, HE.out⟩
    · have HB := hid (HNO.out (.inr (.inl g2)))
      have e2 : (n == n') = false := by simpa using g2
      go_enter Tryd.func20, Tryd.ntmps20
      go_wp2
      go_ret
      exact ⟨by rw [HB.out]; first | rfl | simp, HE.out⟩
  · have HB := hid (HNO.out (.inl g1))
    obtain ⟨e1, e1b⟩ := u8_ne2 g1
    go_enter Tryd.func20, Tryd.ntmps20
    go_wp2
    go_ret
    exact ⟨by rw [HB.out]; first | rfl | simp, HE.out⟩
end Go.Proofs.YtaemmabaekjkeaaDoor
