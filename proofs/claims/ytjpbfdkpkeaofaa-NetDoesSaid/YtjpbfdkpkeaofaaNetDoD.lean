/- The law's does: Take. -/
import Derived.Test.YtjpbfdkpkeaofaaNetDoC
set_option linter.unusedSimpArgs false
set_option linter.unusedVariables false
namespace Go.Proofs.Ytjpbfdkpkeaofaa
open Go.RowKit
set_option linter.unusedVariables false

theorem set_self {w : World} {b : Nat} {t : TypeId} {cs : Array Value} {i : Nat} {v : Value} (h : Blk w b t cs) (hi : cs[i]? = some v) : w.setCell ⟨b, i, none⟩ v = w := by
  have hh : w.heap[b]? = some (.cells cs t (0, 0)) := h
  obtain ⟨hlt, he⟩ := Array.getElem?_eq_some_iff.1 hh
  obtain ⟨hl2, he2⟩ := Array.getElem?_eq_some_iff.1 hi
  have hm : w.heap.modify b (fun
      | .cells c elem frozen => .cells (if (none : Option Addr).isSome then c else c.setIfInBounds i v) elem frozen
      | o => o) = w.heap := by
    apply Array.ext (by simp)
    intro k h1 h2
    rw [Array.getElem_modify]
    split
    · rename_i e
      subst e
      rw [he]
      simp only [Option.isSome_none, Bool.false_eq_true, if_false, Obj.cells.injEq, and_true]
      apply Array.ext (by simp)
      intro j h3 h4
      rw [Array.getElem_setIfInBounds]
      split
      · rename_i e2; subst e2; exact he2.symm
      · rfl
    · rfl
  exact congrArg (fun h => { w with heap := h }) hm
theorem one_sl {w : World} {S : BS} {bv : Value} {m : Mail} (h : BytesS w S bv m.b) : Sl EMail (w.alloc (.cells #[.int .i64 m.sess, .bool m.up, bv] TMAIL)) (fun _ => True) (.slice (some ⟨w.heap.size, 0, none⟩) 1 1) [m] :=
  ⟨[.int .i64 m.sess, .bool m.up, bv], (RowS.new (w := w) (sz := 3) (cs := [_, _, _]) (n := 1) rfl (by simp [maxLen])).more fun _ _ _ => trivial, Cells.single ⟨bv, rfl, (h.ext EU8.ok ((Keep.refl _ _).alloc _)).more EU8.ok fun _ _ _ => trivial⟩⟩
set_option maxRecDepth 20000 in
set_option maxHeartbeats 3200000 in
theorem does_take (w0 w : World) (bn rn : Nat) (g1 g2 : Option Nat) (ms : List Mail) (k : UInt8) (sess : Int) (up : Bool) (A : Option Addr) (n c : Nat) (z : Int) (hk : k.toNat % 9 = 3) (i : Nat) (hi : i < ms.length) (hm20 : ms.length < 2000) (hz : z = (i : Int)) (m : Mail) (hm : ms[i] = m) (h : Pair w0 w bn rn g1 g2 ms ms) :
    Calls Try.prog 14 #[.pointer (some ⟨bn, 0, none⟩), .pointer (some ⟨rn, 0, none⟩), .agg #[U8 k, .int .i64 sess, .bool up, .slice A n c, .int .i64 z]] w (DoneN w0 bn rn (ms.eraseIdx i)) := by
  obtain ⟨W, hW⟩ : ∃ W, w.alloc (.cells #[U8 k, .int .i64 sess, .bool up, .slice A n c, .int .i64 z] 30) = W := ⟨_, rfl⟩
  have hE : Ext w W := by rw [← hW]; exact (Keep.refl _ _).alloc _
  have hb : Blk W w.heap.size 30 #[U8 k, .int .i64 sess, .bool up, .slice A n c, .int .i64 z] := by rw [← hW]; exact Blk.new _ _ _
  have q0 := hb.cell 0
  have q3 := hb.cell 4
  simp only [List.getElem?_toArray, List.getElem?_cons_succ, List.getElem?_cons_zero] at q0 q3
  have HT := hid (h.more hE)
  have HL := hid HT.out.lw
  have HQ3 := hid q3
  have HLO := hid (show ¬ (NF bn g1 w.heap.size ∨ NF rn g2 w.heap.size) from fun hb => by
    have h1 := h.net.lt
    have h2 := h.ref.lt
    rcases hb with (h | h) | h | h
    · omega
    · have := (h1.2 _ h).2; omega
    · omega
    · have := (h2.2 _ h).2; omega)
  have hkz : ((k.toNat : Int)).tmod 9 = 3 := by rw [Int.tmod_eq_emod_of_nonneg (by omega)]; omega
  have hkz2 : (k.toNat : Int) % 9 = 3 := by omega
  clear h hE hb
  subst hz
  have HI := hid hi
  have HMM := hid hm
  have HM := hid hm20
  clear hm20
  have hTK := take_yes _ _ bn g1 ms i HT.out.net.cutS HI.out
  rw [HMM.out] at hTK
  clear hm
  have HTK := hid hTK
  clear hTK
  generalize hnew : ms.eraseIdx i = new at *
  have HNEW := hid hnew
  clear hnew
  go_enter Try.func14, Try.ntmps14
  go_wp2_with fail
  refine HTK.out.mono ?_
  clear HTK
  rintro e w1 ⟨bv, rfl, hbv, hn, hk⟩
  have q3' := (hk.cell (lt_of_cell HQ3.out) (fun h => HLO.out (.inl h))).trans HQ3.out
  have HP := hid (HT.out.stepN0 hk hn)
  have HB1 := hid hbv
  obtain ⟨A1, c1, rfl, _⟩ := hbv.shape
  have HSZ := hid hk.size
  clear hbv hn hk q0 q3
  have hE2 : Ext w1 (w1.alloc (.cells #[.int .i64 m.sess, .bool m.up, .slice A1 m.b.length c1] TMAIL)) := (Keep.refl _ _).alloc _
  have hbx : Blk (w1.alloc (.cells #[.int .i64 m.sess, .bool m.up, .slice A1 m.b.length c1] TMAIL)) w1.heap.size TMAIL #[.int .i64 m.sess, .bool m.up, .slice A1 m.b.length c1] := Blk.new _ _ _
  obtain ⟨w2, hw2⟩ : ∃ w2, w1.alloc (.cells #[.int .i64 m.sess, .bool m.up, .slice A1 m.b.length c1] TMAIL) = w2 := ⟨_, rfl⟩
  rw [hw2] at hE2 hbx
  replace HP := hid (HP.out.more hE2)
  replace HB1 := hid (HB1.out.ext EU8.ok hE2)
  replace q3' := (hE2.cell (lt_of_cell q3') id).trans q3'
  have HBX := hid hbx
  have HX1 := hid (show ¬ NF rn g2 w1.heap.size from fun h => by
    have h1 := HL.out.rn
    have h2 := HL.out.g2
    have h3 := HSZ.out
    rcases h with h | h
    · omega
    · have := h2 _ h; omega)
  clear hE2 hbx
  go_wp2_with fail
  refine (rtake_yes _ _ rn g2 ms i HP.out.ref HI.out (Nat.le_of_lt HM.out)).mono ?_
  rintro e w3 ⟨bv2, a2, he, hbv2, hr, hg, hk⟩
  rw [HMM.out] at he hbv2
  rw [HNEW.out] at hr
  subst he
  have HP3 := hid (HP.out.stepR1 hk hr hg)
  replace HB1 := hid (HB1.out.keep EU8.ok hk fun k h e => e.elim h.1.2.1 h.1.2.2.2)
  replace HBX := hid (HBX.out.keep hk HX1.out)
  obtain ⟨A2, c2, rfl, _⟩ := hbv2.shape
  have hE4 : Ext w3 (w3.alloc (.cells #[.int .i64 m.sess, .bool m.up, .slice A2 m.b.length c2] TMAIL)) := (Keep.refl _ _).alloc _
  have hbx : Blk (w3.alloc (.cells #[.int .i64 m.sess, .bool m.up, .slice A2 m.b.length c2] TMAIL)) w3.heap.size TMAIL #[.int .i64 m.sess, .bool m.up, .slice A2 m.b.length c2] := Blk.new _ _ _
  obtain ⟨w4, hw4⟩ : ∃ w4, w3.alloc (.cells #[.int .i64 m.sess, .bool m.up, .slice A2 m.b.length c2] TMAIL) = w4 := ⟨_, rfl⟩
  rw [hw4] at hE4 hbx
  have HB2 := hid (hbv2.ext EU8.ok hE4)
  replace HB1 := hid (HB1.out.ext EU8.ok hE4)
  replace HBX := hid (HBX.out.keep hE4 id)
  have HBY := hid hbx
  have hE5 : Ext w4 (w4.alloc (.cells #[.int .i64 m.sess, .bool m.up, .slice A1 m.b.length c1] TMAIL)) := (Keep.refl _ _).alloc _
  have hs5 := one_sl HB1.out
  obtain ⟨w5, hw5⟩ : ∃ w5, w4.alloc (.cells #[.int .i64 m.sess, .bool m.up, .slice A1 m.b.length c1] TMAIL) = w5 := ⟨_, rfl⟩
  rw [hw5] at hE5 hs5
  have hs6 := one_sl (HB2.out.ext EU8.ok hE5)
  have hE6 : Ext w5 (w5.alloc (.cells #[.int .i64 m.sess, .bool m.up, .slice A2 m.b.length c2] TMAIL)) := (Keep.refl _ _).alloc _
  obtain ⟨w6, hw6⟩ : ∃ w6, w5.alloc (.cells #[.int .i64 m.sess, .bool m.up, .slice A2 m.b.length c2] TMAIL) = w6 := ⟨_, rfl⟩
  rw [hw6] at hE6 hs6
  have HS5 := hid (hs5.ext EMail.ok hE6)
  have HS6 := hid hs6
  have HP6 := hid (((HP3.out.more hE4).more hE5).more hE6)
  have x0 := HBX.out.cell 0
  have x1 := HBX.out.cell 1
  have x2 := HBX.out.cell 2
  have y0 := HBY.out.cell 0
  have y1 := HBY.out.cell 1
  have y2 := HBY.out.cell 2
  have z0 := (HBY.out.keep hE5 id).cell 0
  have z1 := (HBY.out.keep hE5 id).cell 1
  have z2 := (HBY.out.keep hE5 id).cell 2
  simp at x0 x1 x2 y0 y1 y2 z0 z1 z2
  clear hbv2 hr hg hk hE4 hE5 hE6 hbx hs5 hs6 HBX HBY HP HP3 HB1 HB2 q3' hw2 HX1 HSZ
  go_wp2_with fail
  refine (same_yes _ _ _ _ _ _ HS5.out HS6.out).mono ?_
  rintro e w7 ⟨rfl, hE⟩
  have HP7 := hid (HP6.out.more hE)
  clear hE x0 x1 x2 y0 y1 y2 z0 z1 z2
  go_wp2
  go_ret
  exact ⟨rfl, _, _, HP7.out⟩
set_option maxRecDepth 20000 in
set_option maxHeartbeats 3200000 in
theorem does_take_no (w0 w : World) (bn rn : Nat) (g1 g2 : Option Nat) (ms : List Mail) (k : UInt8) (sess : Int) (up : Bool) (A : Option Addr) (n c : Nat) (z : Int) (hk : k.toNat % 9 = 3) (hi : z < 0 ∨ (ms.length : Int) ≤ z) (h : Pair w0 w bn rn g1 g2 ms ms) :
    Calls Try.prog 14 #[.pointer (some ⟨bn, 0, none⟩), .pointer (some ⟨rn, 0, none⟩), .agg #[U8 k, .int .i64 sess, .bool up, .slice A n c, .int .i64 z]] w (DoneN w0 bn rn ms) := by
  obtain ⟨W, hW⟩ : ∃ W, w.alloc (.cells #[U8 k, .int .i64 sess, .bool up, .slice A n c, .int .i64 z] 30) = W := ⟨_, rfl⟩
  have hE : Ext w W := by rw [← hW]; exact (Keep.refl _ _).alloc _
  have hb : Blk W w.heap.size 30 #[U8 k, .int .i64 sess, .bool up, .slice A n c, .int .i64 z] := by rw [← hW]; exact Blk.new _ _ _
  have q0 := hb.cell 0
  have q3 := hb.cell 4
  simp only [List.getElem?_toArray, List.getElem?_cons_succ, List.getElem?_cons_zero] at q0 q3
  have HT := hid (h.more hE)
  have HL := hid HT.out.lw
  have HQ3 := hid q3
  have HLO := hid (show ¬ (NF bn g1 w.heap.size ∨ NF rn g2 w.heap.size) from fun hb => by
    have h1 := h.net.lt
    have h2 := h.ref.lt
    rcases hb with (h | h) | h | h
    · omega
    · have := (h1.2 _ h).2; omega
    · omega
    · have := (h2.2 _ h).2; omega)
  have hkz : ((k.toNat : Int)).tmod 9 = 3 := by rw [Int.tmod_eq_emod_of_nonneg (by omega)]; omega
  have hkz2 : (k.toNat : Int) % 9 = 3 := by omega
  clear h hE hb
  have HI := hid hi
  clear hi
  go_enter Try.func14, Try.ntmps14
  go_wp2_with fail
  refine (take_no _ _ bn g1 ms z HT.out.net HI.out).mono ?_
  rintro e w1 ⟨rfl, hE⟩
  have q3' := (hE.cell (lt_of_cell HQ3.out) id).trans HQ3.out
  have HP := hid (HT.out.more hE)
  clear hE q0 q3
  have hE2 : Ext w1 (w1.alloc (.cells #[.int .i64 0, .bool false, .slice none 0 0] TMAIL)) := (Keep.refl _ _).alloc _
  have hbx : Blk (w1.alloc (.cells #[.int .i64 0, .bool false, .slice none 0 0] TMAIL)) w1.heap.size TMAIL #[.int .i64 0, .bool false, .slice none 0 0] := Blk.new _ _ _
  obtain ⟨w2, hw2⟩ : ∃ w2, w1.alloc (.cells #[.int .i64 0, .bool false, .slice none 0 0] TMAIL) = w2 := ⟨_, rfl⟩
  rw [hw2] at hE2 hbx
  have u0 := set_self hbx (i := 0) (v := .int .i64 0) rfl
  have u1 := set_self hbx (i := 1) (v := .bool false) rfl
  have u2 := set_self hbx (i := 2) (v := .slice none 0 0) rfl
  have v0 := hbx.cell 0
  have v1 := hbx.cell 1
  have v2 := hbx.cell 2
  have f0 := hbx.frozen 0
  have f1 := hbx.frozen 1
  have f2 := hbx.frozen 2
  simp at v0 v1 v2
  replace HP := hid (HP.out.more hE2)
  replace q3' := (hE2.cell (lt_of_cell q3') id).trans q3'
  have HBX := hid hbx
  clear hE2 hbx
  go_wp2_with fail
  try rw [u0, u1, u2]
  refine (rtake_no _ _ rn g2 ms z HP.out.ref HI.out).mono ?_
  rintro e w3 ⟨rfl, hE⟩
  replace HP := hid (HP.out.more hE)
  replace HBX := hid (HBX.out.keep hE id)
  clear hE u0 u1 u2 v0 v1 v2 f0 f1 f2 hw2
  have hE4 : Ext w3 (w3.alloc (.cells #[.int .i64 0, .bool false, .slice none 0 0] TMAIL)) := (Keep.refl _ _).alloc _
  have hbx : Blk (w3.alloc (.cells #[.int .i64 0, .bool false, .slice none 0 0] TMAIL)) w3.heap.size TMAIL #[.int .i64 0, .bool false, .slice none 0 0] := Blk.new _ _ _
  obtain ⟨w4, hw4⟩ : ∃ w4, w3.alloc (.cells #[.int .i64 0, .bool false, .slice none 0 0] TMAIL) = w4 := ⟨_, rfl⟩
  rw [hw4] at hE4 hbx
  have u0 := set_self hbx (i := 0) (v := .int .i64 0) rfl
  have u1 := set_self hbx (i := 1) (v := .bool false) rfl
  have u2 := set_self hbx (i := 2) (v := .slice none 0 0) rfl
  have v0 := hbx.cell 0
  have v1 := hbx.cell 1
  have v2 := hbx.cell 2
  have f0 := hbx.frozen 0
  have f1 := hbx.frozen 1
  have f2 := hbx.frozen 2
  simp at v0 v1 v2
  replace HBX := hid (HBX.out.keep hE4 id)
  have HBY := hid hbx
  have hE5 : Ext w4 (w4.alloc (.cells #[.int .i64 0, .bool false, .slice none 0 0] TMAIL)) := (Keep.refl _ _).alloc _
  have hs5 := one_sl (w := w4) (m := ⟨0, false, []⟩) (Sl.nil w4 (fun _ => False))
  obtain ⟨w5, hw5⟩ : ∃ w5, w4.alloc (.cells #[.int .i64 0, .bool false, .slice none 0 0] TMAIL) = w5 := ⟨_, rfl⟩
  rw [hw5] at hE5 hs5
  have hs6 := one_sl (w := w5) (m := ⟨0, false, []⟩) (Sl.nil w5 (fun _ => False))
  have hE6 : Ext w5 (w5.alloc (.cells #[.int .i64 0, .bool false, .slice none 0 0] TMAIL)) := (Keep.refl _ _).alloc _
  obtain ⟨w6, hw6⟩ : ∃ w6, w5.alloc (.cells #[.int .i64 0, .bool false, .slice none 0 0] TMAIL) = w6 := ⟨_, rfl⟩
  rw [hw6] at hE6 hs6
  have HS5 := hid (hs5.ext EMail.ok hE6)
  have HS6 := hid hs6
  have HP6 := hid (((HP.out.more hE4).more hE5).more hE6)
  have x0 := HBX.out.cell 0
  have x1 := HBX.out.cell 1
  have x2 := HBX.out.cell 2
  have z0 := (HBY.out.keep hE5 id).cell 0
  have z1 := (HBY.out.keep hE5 id).cell 1
  have z2 := (HBY.out.keep hE5 id).cell 2
  simp at x0 x1 x2 z0 z1 z2
  clear hE4 hE5 hE6 hbx hs5 hs6 HBX HBY HP q3'
  go_wp2_with fail
  trace_state
  refine (same_yes _ _ _ _ _ _ HS5.out HS6.out).mono ?_
  rintro e w7 ⟨rfl, hE⟩
  have HP7 := hid (HP6.out.more hE)
  clear hE x0 x1 x2 z0 z1 z2 u0 u1 u2 v0 v1 v2 f0 f1 f2
  go_wp2
  go_ret
  exact ⟨rfl, _, _, HP7.out⟩
end Go.Proofs.Ytjpbfdkpkeaofaa
