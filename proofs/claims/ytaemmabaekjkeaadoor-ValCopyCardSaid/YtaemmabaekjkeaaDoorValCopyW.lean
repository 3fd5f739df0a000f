/- Copy of any value is the same, in new memory: what is done to it does not touch the value: the walk. -/
import Derived.Test.YtaemmabaekjkeaaDoorLawKnown1
import Derived.Test.YtaemmabaekjkeaaDoorLawRaw
import Derived.Test.YtaemmabaekjkeaaDoorRefSame
import Derived.Test.YtaemmabaekjkeaaDoorRefCopy
import Derived.Test.YtaemmabaekjkeaaDoorValCopy
set_option linter.unusedSimpArgs false
set_option linter.unusedVariables false
namespace Go.Proofs.YtaemmabaekjkeaaDoor
open Go.RowKit
set_option linter.unusedVariables false
/-- A row that may be written: n elements of sz cells each; or none. -/
def WrRow (w : World) (v : Value) (T : TypeId) (sz n : Nat) : Prop := n = 0 ∨ ∃ g cap cur, v = .slice (some ⟨g, 0, none⟩) n cap ∧ n ≤ cap ∧ Blk w g T cur ∧ n * sz ≤ cur.size
theorem WrRow.of_own {α : Type} {E : El α} {w : World} {base : Nat} {T : TypeId} {S : BS} {v : Value} {xs : List α} (h : Own E w base T S v xs) : WrRow w v T E.size xs.length := by
  rcases h with ⟨_, rfl⟩ | ⟨g, cap, cur, rfl, _, h2, h3, _, h5, _⟩
  · exact .inl rfl
  · exact .inr ⟨g, cap, cur, rfl, h3, h2, by rw [h5]; exact Nat.mul_le_mul_right _ h3⟩
theorem WrRow.keep {w w' : World} {Fr : Nat → Prop} {v : Value} {T : TypeId} {sz n : Nat} (h : WrRow w v T sz n) (hk : Keep Fr w w') (hF : ∀ g, v.ownBlock = some g → ¬ Fr g) : WrRow w' v T sz n := by
  rcases h with h | ⟨g, cap, cur, rfl, h1, h2, h3⟩
  · exact .inl h
  · exact .inr ⟨g, cap, cur, rfl, h1, h2.keep hk (hF g rfl), h3⟩
theorem set5_size {w : World} {g : Nat} {T : TypeId} {cur : Array Value} (h : Blk w g T cur) (o : Nat) (a b c d e : Value) (ho : o + 5 ≤ cur.size) : ∃ cur', Blk (set5 w g o a b c d e) g T cur' ∧ cur'.size = cur.size := by
  obtain ⟨cur', h1, h2⟩ := set5_blk h o a b c d e ho
  refine ⟨cur', h1, ?_⟩
  have := congrArg List.length h2
  simp at this
  omega
set_option maxRecDepth 20000 in
set_option maxHeartbeats 12800000 in
theorem copy_walk (lv : Value) (ts : List Tk)  (w : World) (hts : Sl ETok w (fun _ => True) lv ts) (hv : ValAny w) :
    Calls Tryd.prog 5 #[lv] w fun e w' => e = .returned (.bool true) ∧ Ext w w' := by
  obtain ⟨Ats, cts, rfl, _, _⟩ := hts.shape
  have HL := hid hts
  clear hts
  have HVA := hid hv
  clear hv
  go_enter Tryd.func5, Tryd.ntmps5
  have hend : ∀ wx, Ext w wx → Calls Tryd.prog 10 #[] wx fun e w' => e = .returned (.bool true) ∧ Ext w w' := fun wx h => (known1_ok w wx HVA.out h).mono fun e w' h2 => ⟨h2.1, h.ext h2.2⟩
  have HEND := hid hend
  clear hend
  have HEW := hid (Keep.refl (fun _ => False) w)
  go_wp2_with fail
  refine (heavy1_ok _ _ _ _ HL.out).mono ?_
  rintro e w1 ⟨bw1, rfl, hb, hE⟩
  clear hb
  replace HL := hid (HL.out.ext ETok.ok hE)
  replace HEW := hid (HEW.out.ext hE)
  clear hE
  cases bw1 with
  | true =>
    go_wp2_with fail
    refine (HEND.out _ HEW.out).mono ?_
    rintro e w2 ⟨rfl, hz⟩
    have HZ := hid hz
    clear hz
    go_wp2
    go_ret
    exact ⟨rfl, HZ.out⟩
  | false =>
    go_wp2_with fail
    refine (known1_ok w _ HVA.out HEW.out).mono ?_
    rintro e w3 ⟨rfl, hE⟩
    replace HL := hid (HL.out.ext ETok.ok hE)
    replace HEW := hid (HEW.out.ext hE)
    clear hE HEND
    go_wp2_with fail
    refine (rawall2_ok _ _ _ _ HL.out).mono ?_
    rintro e w4 ⟨u, x, rfl, hsz, ⟨lx, ox, rfl, hlx, hox⟩, hE⟩
    obtain ⟨Ax1, cx1, rfl, _⟩ := hlx.shape
    obtain ⟨Ax2, cx2, rfl, _⟩ := hox.shape
    have HSx := hid hsz
    clear hsz
    have hA : Ext w4 (w4.alloc (.cells #[U8 x.kind, .int .i64 x.n, .string x.s, .slice Ax1 x.l.length cx1, .slice Ax2 x.o.length cx2] TVAL)) := (Keep.refl _ _).alloc _
    replace HL := hid (HL.out.ext ETok.ok (hE.ext hA))
    replace HEW := hid (HEW.out.ext (hE.ext hA))
    have HBx := hid (Blk.new w4 TVAL #[U8 x.kind, .int .i64 x.n, .string x.s, .slice Ax1 x.l.length cx1, .slice Ax2 x.o.length cx2])
    have HVx := hid (show VAt (w4.alloc (.cells #[U8 x.kind, .int .i64 x.n, .string x.s, .slice Ax1 x.l.length cx1, .slice Ax2 x.o.length cx2] TVAL)) (fun _ => True) (.agg #[U8 x.kind, .int .i64 x.n, .string x.s, .slice Ax1 x.l.length cx1, .slice Ax2 x.o.length cx2]) x from VAt.ext (VAt.more ⟨_, _, rfl, hlx, hox⟩ fun _ _ _ => trivial) hA)
    clear hA
    clear hlx hox hE
    obtain ⟨qx0, qx1, qx2, qx3, qx4⟩ := blk5 HBx.out
    go_wp2_with fail
    generalize w4.alloc (.cells #[U8 x.kind, .int .i64 x.n, .string x.s, .slice Ax1 x.l.length cx1, .slice Ax2 x.o.length cx2] TVAL) = w5 at *
    have HVx5 := hid (show VAt w5 (fun k => k < w5.heap.size) (.agg #[U8 x.kind, .int .i64 x.n, .string x.s, .slice Ax1 x.l.length cx1, .slice Ax2 x.o.length cx2]) x from (HVx.out.cut).more fun k _ h => h.2)
    have HVO := hid HVx5
    have hz5 : w4.heap.size < w5.heap.size := HBx.out.lt
    have HW5 := hid HEW.out.size
    refine (copy_val x.size x (Nat.le_refl _) (by have := HSx.out.1; omega) _ _ _ HVx.out).mono ?_
    rintro e w6 ⟨lv1, ov1, rfl, how1, how2, hE⟩
    obtain ⟨Ay1, cy1, rfl, hcl1, hcm1⟩ := how1.shape
    obtain ⟨Ay2, cy2, rfl, hcl2, hcm2⟩ := how2.shape
    unfold maxLen at hcm1 hcm2
    have hat1 : Sl EVal w6 (fun k => k < w6.heap.size) (.slice Ay1 x.l.length cy1) x.l := (how1.sl EVal.ok).more EVal.ok fun _ h _ => h
    have hat2 : Sl EField w6 (fun k => k < w6.heap.size) (.slice Ay2 x.o.length cy2) x.o := (how2.sl EField.ok).more EField.ok fun _ h _ => h
    have HLT1 := hid (fun g (hg : (Value.slice Ay1 x.l.length cy1).ownBlock = some g) => how1.lt hg)
    have HLT2 := hid (fun g (hg : (Value.slice Ay2 x.o.length cy2).ownBlock = some g) => how2.lt hg)
    have hne12 : ∀ g1 g2, (Value.slice Ay1 x.l.length cy1).ownBlock = some g1 → (Value.slice Ay2 x.o.length cy2).ownBlock = some g2 → g2 ≠ g1 := fun g1 g2 h1 h2 => by
      rcases how1 with ⟨e1, _⟩ | ⟨a1, b1, d1, e1, _, hb1, _⟩
      · rw [e1] at h1; simp [Value.ownBlock] at h1
      · rcases how2 with ⟨e2, _⟩ | ⟨a2, b2, d2, e2, _, hb2, _⟩
        · rw [e2] at h2; simp [Value.ownBlock] at h2
        · rw [e1] at h1; rw [e2] at h2
          simp [Value.ownBlock] at h1 h2
          subst h1 h2
          exact fun e => hb1.ne_ hb2 (by decide) e.symm
    have HNE := hid hne12
    have HW1 := hid (WrRow.of_own how1)
    have HW2 := hid (WrRow.of_own how2)
    have hs56 := hE.size
    have hA : Ext w6 (w6.alloc (.cells #[U8 x.kind, .int .i64 x.n, .string x.s, .slice Ay1 x.l.length cy1, .slice Ay2 x.o.length cy2] TVAL)) := (Keep.refl _ _).alloc _
    replace HEW := hid (HEW.out.ext (hE.ext hA))
    replace HBx := hid (HBx.out.keep (hE.ext hA) id)
    replace HVx := hid (VAt.ext HVx5.out (hE.ext hA))
    replace HW1 := hid (HW1.out.keep hA fun _ _ => id)
    replace HW2 := hid (HW2.out.keep hA fun _ _ => id)
    have HBy := hid (Blk.new w6 TVAL #[U8 x.kind, .int .i64 x.n, .string x.s, .slice Ay1 x.l.length cy1, .slice Ay2 x.o.length cy2])
    have HVy := hid (show VAt (w6.alloc (.cells #[U8 x.kind, .int .i64 x.n, .string x.s, .slice Ay1 x.l.length cy1, .slice Ay2 x.o.length cy2] TVAL)) (fun k => k < w6.heap.size) (.agg #[U8 x.kind, .int .i64 x.n, .string x.s, .slice Ay1 x.l.length cy1, .slice Ay2 x.o.length cy2]) x from VAt.ext ⟨_, _, rfl, hat1, hat2⟩ hA)
    clear how1 how2 hne12 hat1 hat2 hE hA qx0 qx1 qx2 qx3 qx4 HVx5 HVO HL
    obtain ⟨qx0, qx1, qx2, qx3, qx4⟩ := blk5 HBx.out
    go_wp2_with fail
    generalize hw7 : w6.alloc (.cells #[U8 x.kind, .int .i64 x.n, .string x.s, .slice Ay1 x.l.length cy1, .slice Ay2 x.o.length cy2] TVAL) = w7 at *
    have hz7 : w7.heap.size = w6.heap.size + 1 := by rw [← hw7]; simp
    clear hw7
    refine (rcopy_any _ x (Nat.le_refl _) (by have := HSx.out.1; omega) _ _ _ HVx.out).mono ?_
    rintro e w8 hg
    obtain ⟨u, rfl, ⟨lx, ox, rfl, hlx, hox⟩, hE⟩ := hg.at_
    obtain ⟨Az1, cz1, rfl, _⟩ := hlx.shape
    obtain ⟨Az2, cz2, rfl, _⟩ := hox.shape
    clear hg
    have hs78 := hE.size
    have hA : Ext w8 (w8.alloc (.cells #[U8 x.kind, .int .i64 x.n, .string x.s, .slice Az1 x.l.length cz1, .slice Az2 x.o.length cz2] TVAL)) := (Keep.refl _ _).alloc _
    replace HEW := hid (HEW.out.ext (hE.ext hA))
    replace HBx := hid (HBx.out.keep (hE.ext hA) id)
    replace HVx := hid (VAt.ext HVx.out (hE.ext hA))
    replace HBy := hid (HBy.out.keep (hE.ext hA) id)
    replace HVy := hid (VAt.ext HVy.out (hE.ext hA))
    replace HW1 := hid (HW1.out.keep (hE.ext hA) fun _ _ => id)
    replace HW2 := hid (HW2.out.keep (hE.ext hA) fun _ _ => id)
    have HBz := hid (Blk.new w8 TVAL #[U8 x.kind, .int .i64 x.n, .string x.s, .slice Az1 x.l.length cz1, .slice Az2 x.o.length cz2])
    have HVz := hid (show VAt (w8.alloc (.cells #[U8 x.kind, .int .i64 x.n, .string x.s, .slice Az1 x.l.length cz1, .slice Az2 x.o.length cz2] TVAL)) (fun k => w7.heap.size ≤ k) (.agg #[U8 x.kind, .int .i64 x.n, .string x.s, .slice Az1 x.l.length cz1, .slice Az2 x.o.length cz2]) x from VAt.ext ⟨_, _, rfl, hlx, hox⟩ hA)
    clear hlx hox hE hA qx0 qx1 qx2 qx3 qx4
    obtain ⟨qx0, qx1, qx2, qx3, qx4⟩ := blk5 HBx.out
    obtain ⟨qy0, qy1, qy2, qy3, qy4⟩ := blk5 HBy.out
    go_wp2_with fail
    generalize w8.alloc (.cells #[U8 x.kind, .int .i64 x.n, .string x.s, .slice Az1 x.l.length cz1, .slice Az2 x.o.length cz2] TVAL) = w9 at *
    refine (same_eq _ x (Nat.le_refl _) _ _ _ _ _ HVx.out HVy.out).mono ?_
    rintro e w10 ⟨rfl, hE⟩
    replace HEW := hid (HEW.out.ext hE)
    replace HBx := hid (HBx.out.keep hE id)
    replace HVx := hid (VAt.ext HVx.out hE)
    replace HBy := hid (HBy.out.keep hE id)
    replace HBz := hid (HBz.out.keep hE id)
    replace HVz := hid (VAt.ext HVz.out hE)
    replace HW1 := hid (HW1.out.keep hE fun _ _ => id)
    replace HW2 := hid (HW2.out.keep hE fun _ _ => id)
    clear hE qx0 qx1 qx2 qx3 qx4 qy0 qy1 qy2 qy3 qy4 HVy
    have hzy : w6.heap.size < w10.heap.size := HBy.out.lt
    have hzz : w8.heap.size < w10.heap.size := HBz.out.lt
    go_wp2_with fail
    go_loopw [7] (fun i wr => ∃ j : Nat, j ≤ x.l.length ∧ i = .int .i64 j ∧ WrRow wr (.slice Ay1 x.l.length cy1) TVAL 5 x.l.length ∧ Keep (fun k => (Value.slice Ay1 x.l.length cy1).ownBlock = some k) w10 wr) (fun i _ => x.l.length - (intOf i).toNat)
    case atStart => exact ⟨0, by omega, rfl, HW1.out, Keep.refl _ _⟩
    case round =>
      obtain ⟨j, hj, rfl, hwr, hk⟩ := hrel
      have HWR := hid hwr
      have HK := hid hk
      have y3 : wr.cell? ⟨w6.heap.size, 3, none⟩ = some (.slice Ay1 x.l.length cy1) := (HBy.out.keep hk fun e => by have := (HLT1.out _ e).2; omega).cell 3
      have y4 : wr.cell? ⟨w6.heap.size, 4, none⟩ = some (.slice Ay2 x.o.length cy2) := (HBy.out.keep hk fun e => by have := (HLT1.out _ e).2; omega).cell 4
      clear hwr hk
      by_cases hlt : j < x.l.length
      · obtain ⟨g, cap, cur, e1, hcap, hblk, hsz⟩ : ∃ g cap cur, Value.slice Ay1 x.l.length cy1 = .slice (some ⟨g, 0, none⟩) x.l.length cap ∧ x.l.length ≤ cap ∧ Blk wr g TVAL cur ∧ x.l.length * 5 ≤ cur.size := by
          rcases HWR.out with h | h
          · omega
          · exact h
        obtain ⟨rfl, rfl⟩ : Ay1 = some ⟨g, 0, none⟩ ∧ cy1 = cap := by injection e1 with h1 _ h3; exact ⟨h1, h3⟩
        have hj5 : j * 5 + 5 ≤ cur.size := by omega
        obtain ⟨cur2, hb2, hs2⟩ := set5_size hblk (j * 5) (.int .u8 99) (.int .i64 0) (.string ⟨#[]⟩) (.slice none 0 0) (.slice none 0 0) hj5
        have HX := hid (show WrRow (set5 wr g (j * 5) (.int .u8 99) (.int .i64 0) (.string ⟨#[]⟩) (.slice none 0 0) (.slice none 0 0)) (.slice (some ⟨g, 0, none⟩) x.l.length cy1) TVAL 5 x.l.length from .inr ⟨g, cy1, cur2, rfl, hcap, hb2, by rw [hs2]; exact hsz⟩)
        have HY := hid (HK.out.trans (set5_keep wr g (j * 5) (.int .u8 99) (.int .i64 0) (.string ⟨#[]⟩) (.slice none 0 0) (.slice none 0 0)) fun k _ e => by rw [e]; rfl)
        obtain ⟨v0, c0⟩ : ∃ v, wr.cell? ⟨g, j * 5, none⟩ = some v := ⟨cur[j * 5]'(by omega), by rw [hblk.cell]; exact Array.getElem?_eq_getElem _⟩
        obtain ⟨v1, c1⟩ : ∃ v, wr.cell? ⟨g, j * 5 + 1, none⟩ = some v := ⟨cur[j * 5 + 1]'(by omega), by rw [hblk.cell]; exact Array.getElem?_eq_getElem _⟩
        obtain ⟨v2, c2⟩ : ∃ v, wr.cell? ⟨g, j * 5 + 2, none⟩ = some v := ⟨cur[j * 5 + 2]'(by omega), by rw [hblk.cell]; exact Array.getElem?_eq_getElem _⟩
        obtain ⟨v3, c3⟩ : ∃ v, wr.cell? ⟨g, j * 5 + 3, none⟩ = some v := ⟨cur[j * 5 + 3]'(by omega), by rw [hblk.cell]; exact Array.getElem?_eq_getElem _⟩
        obtain ⟨v4, c4⟩ : ∃ v, wr.cell? ⟨g, j * 5 + 4, none⟩ = some v := ⟨cur[j * 5 + 4]'(by omega), by rw [hblk.cell]; exact Array.getElem?_eq_getElem _⟩
        have f0 := hblk.frozen (j * 5)
        have f1 := hblk.frozen (j * 5 + 1)
        have f2 := hblk.frozen (j * 5 + 2)
        have f3 := hblk.frozen (j * 5 + 3)
        have f4 := hblk.frozen (j * 5 + 4)
        have hjX : (j : Int) < x.l.length := by omega
        clear e1 hblk hb2 hs2
        go_wp2
        exact ⟨⟨j + 1, by omega, by go_num, HX.out, HY.out⟩, by simp [intOf]; omega⟩
      · obtain rfl : j = x.l.length := by omega
        have hnl : ¬ (x.l.length : Int) < x.l.length := by omega
        clear hlt
        go_wp2_with fail
        go_loopw [8] (fun i ws => ∃ j : Nat, j ≤ x.o.length ∧ i = .int .i64 j ∧ WrRow ws (.slice Ay2 x.o.length cy2) TFIELD 6 x.o.length ∧ Keep (fun k => (Value.slice Ay2 x.o.length cy2).ownBlock = some k) wr ws) (fun i _ => x.o.length - (intOf i).toNat)
        case atStart => exact ⟨0, by omega, rfl, HW2.out.keep HK.out (fun g2 h2 h1 => HNE.out _ _ h1 h2 rfl), Keep.refl _ _⟩
        case round =>
          clear y3 y4
          obtain ⟨j, hj, rfl, hwr, hk⟩ := hrel
          have HWR := hid hwr
          have HK2 := hid hk
          have y4 : wr.cell? ⟨w6.heap.size, 4, none⟩ = some (.slice Ay2 x.o.length cy2) := ((HBy.out.keep HK.out fun e => by have := (HLT1.out _ e).2; omega).keep hk fun e => by have := (HLT2.out _ e).2; omega).cell 4
          clear hwr hk
          by_cases hlt : j < x.o.length
          · obtain ⟨g, cap, cur, e1, hcap, hblk, hsz⟩ : ∃ g cap cur, Value.slice Ay2 x.o.length cy2 = .slice (some ⟨g, 0, none⟩) x.o.length cap ∧ x.o.length ≤ cap ∧ Blk wr g TFIELD cur ∧ x.o.length * 6 ≤ cur.size := by
              rcases HWR.out with h | h
              · omega
              · exact h
            obtain ⟨rfl, rfl⟩ : Ay2 = some ⟨g, 0, none⟩ ∧ cy2 = cap := by injection e1 with h1 _ h3; exact ⟨h1, h3⟩
            have hj5 : j * 6 + 1 + 5 ≤ cur.size := by omega
            obtain ⟨cur2, hb2, hs2⟩ := set5_size hblk (j * 6 + 1) (.int .u8 99) (.int .i64 0) (.string ⟨#[]⟩) (.slice none 0 0) (.slice none 0 0) hj5
            have HX := hid (show WrRow (set5 wr g (j * 6 + 1) (.int .u8 99) (.int .i64 0) (.string ⟨#[]⟩) (.slice none 0 0) (.slice none 0 0)) (.slice (some ⟨g, 0, none⟩) x.o.length cy2) TFIELD 6 x.o.length from .inr ⟨g, cy2, cur2, rfl, hcap, hb2, by rw [hs2]; exact hsz⟩)
            have HY := hid (HK2.out.trans (set5_keep wr g (j * 6 + 1) (.int .u8 99) (.int .i64 0) (.string ⟨#[]⟩) (.slice none 0 0) (.slice none 0 0)) fun k _ e => by rw [e]; rfl)
            obtain ⟨v0, c0⟩ : ∃ v, wr.cell? ⟨g, j * 6 + 1, none⟩ = some v := ⟨cur[j * 6 + 1]'(by omega), by rw [hblk.cell]; exact Array.getElem?_eq_getElem _⟩
            obtain ⟨v1, c1⟩ : ∃ v, wr.cell? ⟨g, j * 6 + 1 + 1, none⟩ = some v := ⟨cur[j * 6 + 1 + 1]'(by omega), by rw [hblk.cell]; exact Array.getElem?_eq_getElem _⟩
            obtain ⟨v2, c2⟩ : ∃ v, wr.cell? ⟨g, j * 6 + 1 + 2, none⟩ = some v := ⟨cur[j * 6 + 1 + 2]'(by omega), by rw [hblk.cell]; exact Array.getElem?_eq_getElem _⟩
            obtain ⟨v3, c3⟩ : ∃ v, wr.cell? ⟨g, j * 6 + 1 + 3, none⟩ = some v := ⟨cur[j * 6 + 1 + 3]'(by omega), by rw [hblk.cell]; exact Array.getElem?_eq_getElem _⟩
            obtain ⟨v4, c4⟩ : ∃ v, wr.cell? ⟨g, j * 6 + 1 + 4, none⟩ = some v := ⟨cur[j * 6 + 1 + 4]'(by omega), by rw [hblk.cell]; exact Array.getElem?_eq_getElem _⟩
            have f0 := hblk.frozen (j * 6 + 1)
            have f1 := hblk.frozen (j * 6 + 1 + 1)
            have f2 := hblk.frozen (j * 6 + 1 + 2)
            have f3 := hblk.frozen (j * 6 + 1 + 3)
            have f4 := hblk.frozen (j * 6 + 1 + 4)
            have hjX : (j : Int) < x.o.length := by omega
            clear e1 hblk hb2 hs2
            go_wp2
            exact ⟨⟨j + 1, by omega, by go_num, HX.out, HY.out⟩, by simp [intOf]; omega⟩
          · obtain rfl : j = x.o.length := by omega
            have hnl : ¬ (x.o.length : Int) < x.o.length := by omega
            have hbx := (HBx.out.keep HK.out fun e => by have := (HLT1.out _ e).1; omega).keep HK2.out fun e => by have := (HLT2.out _ e).1; omega
            have hbz := (HBz.out.keep HK.out fun e => by have := (HLT1.out _ e).2; omega).keep HK2.out fun e => by have := (HLT2.out _ e).2; omega
            have HVX := hid ((HVx.out.keep HK.out fun k hk e => by have := (HLT1.out _ e).1; omega).keep HK2.out fun k hk e => by have := (HLT2.out _ e).1; omega)
            have HVZ := hid ((HVz.out.keep HK.out fun k hk e => by have := (HLT1.out _ e).2; omega).keep HK2.out fun k hk e => by have := (HLT2.out _ e).2; omega)
            have HEND := hid ((HEW.out.trans HK.out fun k hk e => by have := (HLT1.out _ e).1; have := HW5.out; omega).trans HK2.out fun k hk e => by have := (HLT2.out _ e).1; have := HW5.out; omega)
            obtain ⟨qx0, qx1, qx2, qx3, qx4⟩ := blk5 hbx
            obtain ⟨qz0, qz1, qz2, qz3, qz4⟩ := blk5 hbz
            clear hlt hbx hbz
            go_wp2_with fail
            refine (same_eq _ x (Nat.le_refl _) _ _ _ _ _ HVX.out HVZ.out).mono ?_
            rintro e w12 ⟨rfl, hE⟩
            have HF := hid (HEND.out.ext hE)
            clear hE
            go_wp2
            go_ret
            exact ⟨rfl, HF.out⟩
theorem copy_lift {Q0 : Prop} (lv : Value) (ts : List Tk) (w : World) (h0 : Sl ETok w (fun k => k < w.heap.size) lv ts) (q0 : Q0) (hv : ValAny w) :
    Calls Tryd.prog 5 #[lv] w fun e w' => e = .returned (.bool true) ∧ Below w.heap.size w w' :=
  (copy_walk lv ts  w (h0.more ETok.ok fun _ _ _ => trivial)  hv).mono fun e w' h => ⟨h.1, h.2.toBelow⟩
end Go.Proofs.YtaemmabaekjkeaaDoor
