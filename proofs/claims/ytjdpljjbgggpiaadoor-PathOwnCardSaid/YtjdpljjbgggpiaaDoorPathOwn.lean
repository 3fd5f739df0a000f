/- What is got is new memory: the walk. -/
import Derived.Test.YtjdpljjbgggpiaaDoorLawWalk
import Derived.Test.YtjdpljjbgggpiaaDoorLawKnown3
import Derived.Test.YtjdpljjbgggpiaaDoorLawHeavy3
import Derived.Test.YtjdpljjbgggpiaaDoorRefCopy
import Derived.Test.YtjdpljjbgggpiaaDoorGrowS
set_option linter.unusedSimpArgs false
set_option linter.unusedVariables false
namespace Go.Proofs.YtjdpljjbgggpiaaDoor
open Go.RowKit
set_option linter.unusedVariables false

/-- A row in a block from b on, its elements whatever. -/
def RowOk (b : Nat) (w : World) (T : TypeId) (sz : Nat) (v : Value) (n : Nat) : Prop :=
  (v = .slice none 0 0 ∧ n = 0) ∨ ∃ g cap cur, v = .slice (some ⟨g, 0, none⟩) n cap ∧ b ≤ g ∧ Blk w g T cur ∧ n ≤ cap ∧ cap ≤ maxLen ∧ cur.size = cap * sz
theorem RowB.rowOk {w : World} {a b b0 : Nat} {T : TypeId} {sz n : Nat} {v : Value} {cs : List Value} (h : RowB w a b T sz v n cs) (hb : b0 ≤ a) : RowOk b0 w T sz v n := by
  obtain ⟨h0, h | ⟨g, cap, cur, e, h1, h2, h3, h4, h5, h6, _⟩⟩ := h
  · exact .inl h
  · exact .inr ⟨g, cap, cur, e, by omega, h3, h4, h5, h6⟩
theorem RowOk.ext {b : Nat} {w w' : World} {T : TypeId} {sz n : Nat} {v : Value} (h : RowOk b w T sz v n) (he : Ext w w') : RowOk b w' T sz v n := by
  rcases h with h | ⟨g, cap, cur, e, h1, h2, h3⟩
  · exact .inl h
  · exact .inr ⟨g, cap, cur, e, h1, h2.keep he id, h3⟩
theorem RowOk.store {b : Nat} {w w' : World} {T : TypeId} {sz n g0 : Nat} {v : Value} (h : RowOk b w T sz v n) (hk : Keep (· = g0) w w') (hb : ∀ T cur, Blk w g0 T cur → ∃ cur', Blk w' g0 T cur' ∧ cur'.size = cur.size) : RowOk b w' T sz v n := by
  rcases h with h | ⟨g, cap, cur, e, h1, h2, h3, h4, h5⟩
  · exact .inl h
  · by_cases hg : g = g0
    · subst hg
      obtain ⟨cur', h6, h7⟩ := hb T cur h2
      exact .inr ⟨g, cap, cur', e, h1, h6, h3, h4, by rw [h7, h5]⟩
    · exact .inr ⟨g, cap, cur, e, h1, h2.keep hk hg, h3, h4, h5⟩
theorem RowOk.shape {b : Nat} {w : World} {T : TypeId} {sz n : Nat} {v : Value} (h : RowOk b w T sz v n) : ∃ A c, v = .slice A n c ∧ n ≤ c ∧ c ≤ maxLen := by
  rcases h with ⟨rfl, rfl⟩ | ⟨g, cap, cur, e, h1, h2, h3, h4, h5⟩
  · exact ⟨none, 0, rfl, by omega, by simp [maxLen]⟩
  · exact ⟨_, cap, e, h3, h4⟩
theorem set5_size (w : World) (g o : Nat) (a b c d e : Value) : ∀ T cur, Blk w g T cur → ∃ cur', Blk (set5 w g o a b c d e) g T cur' ∧ cur'.size = cur.size := fun T cur h =>
  ⟨_, ((((h.set_ o a).set_ (o + 1) b).set_ (o + 2) c).set_ (o + 3) d).set_ (o + 4) e, by simp⟩
theorem set1_size (w : World) (g o : Nat) (a : Value) : ∀ T cur, Blk w g T cur → ∃ cur', Blk (w.setCell ⟨g, o, none⟩ a) g T cur' ∧ cur'.size = cur.size := fun T cur h => ⟨_, h.set_ o a, by simp⟩
/-- What Get handed back: a value over rows of its own. -/
def GetV (b : Nat) (v : Value) (w : World) : Prop := ∃ k n s A l c A' o c', v = .tuple #[.agg #[U8 k, .int .i64 n, .string s, .slice A l c, .slice A' o c'], .int .u16 0] ∧ RowOk b w TVAL 5 (.slice A l c) l ∧ RowOk b w TFIELD 6 (.slice A' o c') o
theorem GetV.ext {b : Nat} {v : Value} {w w' : World} (h : GetV b v w) (he : Ext w w') : GetV b v w' := by
  obtain ⟨k, n, s, A, l, c, A', o, c', e, h1, h2⟩ := h
  exact ⟨k, n, s, A, l, c, A', o, c', e, h1.ext he, h2.ext he⟩
/-- What Walk handed back. -/
def WalkV (x : V) (b : Nat) (v : Value) (w : World) : Prop := ∃ A n c p, v = .slice A n c ∧ Own ESt w b TSTEP (fun _ => False) v p ∧ WalkOk x p
/-- A box of a value over rows of the call's own. -/
def BoxAt (b : Nat) (w : World) (g : Nat) : Prop := ∃ k n s lv ov ln on, Blk w g TVAL #[.int .u8 k, .int .i64 n, .string s, lv, ov] ∧ RowOk b w TVAL 5 lv ln ∧ RowOk b w TFIELD 6 ov on
def BoxV (b : Nat) (v : Value) (w : World) : Prop := ∃ g, v = .pointer (some ⟨g, 0, none⟩) ∧ b ≤ g ∧ BoxAt b w g
/-- A box is filled. -/
def Fill (b : Nat) (w w' : World) : Prop := ∃ g k n s lv ov ln on cur, b ≤ g ∧ Blk w g TVAL cur ∧ cur.size = 5 ∧ RowOk b w TVAL 5 lv ln ∧ RowOk b w TFIELD 6 ov on ∧ w' = set5 w g 0 (.int .u8 k) (.int .i64 n) (.string s) lv ov
def Step2 (b : Nat) (w w' : World) : Prop := Ext w w' ∨ Fill b w w'
theorem BoxAt.store {b : Nat} {w w' : World} {g g0 : Nat} (h : BoxAt b w g) (hk : Keep (· = g0) w w') (hb : ∀ T cur, Blk w g0 T cur → ∃ cur', Blk w' g0 T cur' ∧ cur'.size = cur.size) (hne : g ≠ g0) : BoxAt b w' g := by
  obtain ⟨k, n, s, lv, ov, ln, on, h1, h2, h3⟩ := h
  exact ⟨k, n, s, lv, ov, ln, on, h1.keep hk hne, h2.store hk hb, h3.store hk hb⟩
theorem BoxAt.step {b : Nat} {w w' : World} {g : Nat} (h : BoxAt b w g) (hs : Step2 b w w') : BoxAt b w' g := by
  rcases hs with he | ⟨g0, k0, n0, s0, lv0, ov0, ln0, on0, cur, h1, h2, h3, h4, h5, rfl⟩
  · obtain ⟨k, n, s, lv, ov, ln, on, h1, h2, h3⟩ := h
    exact ⟨k, n, s, lv, ov, ln, on, h1.keep he id, h2.ext he, h3.ext he⟩
  · by_cases hg : g = g0
    · subst hg
      exact ⟨k0, n0, s0, lv0, ov0, ln0, on0, set5_to h2 h3 _ _ _ _ _, h4.store (set5_keep _ _ _ _ _ _ _ _) (set5_size _ _ _ _ _ _ _ _), h5.store (set5_keep _ _ _ _ _ _ _ _) (set5_size _ _ _ _ _ _ _ _)⟩
    · exact h.store (set5_keep _ _ _ _ _ _ _ _) (set5_size _ _ _ _ _ _ _ _) hg
theorem GetV.step {b : Nat} {v : Value} {w w' : World} (h : GetV b v w) (hs : Step2 b w w') : GetV b v w' := by
  rcases hs with he | ⟨g0, k0, n0, s0, lv0, ov0, ln0, on0, cur, h1, h2, h3, h4, h5, rfl⟩
  · exact h.ext he
  · obtain ⟨k, n, s, A, l, c, A', o, c', e, h6, h7⟩ := h
    exact ⟨k, n, s, A, l, c, A', o, c', e, h6.store (set5_keep _ _ _ _ _ _ _ _) (set5_size _ _ _ _ _ _ _ _), h7.store (set5_keep _ _ _ _ _ _ _ _) (set5_size _ _ _ _ _ _ _ _)⟩
theorem WalkV.step {x : V} {b b0 : Nat} {v : Value} {w w' : World} (h : WalkV x b v w) (hs : Step2 b0 w w') : WalkV x b v w' := by
  obtain ⟨A, n, c, p, e, h6, h7⟩ := h
  rcases hs with he | ⟨g0, k0, n0, s0, lv0, ov0, ln0, on0, cur, h1, h2, h3, h4, h5, rfl⟩
  · exact ⟨A, n, c, p, e, h6.ext ESt.ok he, h7⟩
  · refine ⟨A, n, c, p, e, h6.keep ESt.ok (set5_keep _ _ _ _ _ _ _ _) (fun _ h => h.elim) (fun g hg e2 => ?_), h7⟩
    rcases h6 with ⟨rfl, _⟩ | ⟨g', cap, cur', rfl, _, hb', _⟩
    · simp [Value.ownBlock] at hg
    · simp [Value.ownBlock] at hg
      subst hg
      subst e2
      exact hb'.ne_ h2 (by decide) rfl
theorem BoxV.step {b : Nat} {v : Value} {w w' : World} (h : BoxV b v w) (hs : Step2 b w w') : BoxV b v w' := by
  obtain ⟨g, e, h1, h2⟩ := h
  exact ⟨g, e, h1, h2.step hs⟩
theorem stableC2 (w6 : World) : G.StableC (fun _ => Step2 w6.heap.size) (fun w' => Ext w6 w') := fun _ w w' h hs => by
  rcases hs with he | ⟨g0, k0, n0, s0, lv0, ov0, ln0, on0, cur, h1, h2, h3, h4, h5, rfl⟩
  · exact h.ext he
  · exact h.trans (set5_keep _ _ _ _ _ _ _ _) fun q hq e => by omega
theorem get_v {x : V} {p : List St} {b : Nat} {w w' : World} {e : Ending} (hp : WalkOk x p) (hb : b ≤ w.heap.size) (h : GetIs w (getV x p) e w') : ∃ v, e = .returned v ∧ Ext w w' ∧ GetV b v w' := by
  obtain ⟨y, hy⟩ := hp.get
  rw [hy] at h
  obtain ⟨u, rfl, ⟨lv, ov, rfl, htv⟩, hE⟩ := h
  obtain ⟨⟨A1, d1, rfl⟩, ⟨A2, d2, rfl⟩⟩ := htv.shapes
  refine ⟨_, rfl, hE, y.kind, y.n, y.s, A1, _, d1, A2, _, d2, rfl, ?_, ?_⟩
  all_goals
    cases y with
    | mk k n s l o =>
      rw [TV] at htv
      obtain ⟨lv, ov, ls, os, a1, a2, e, h1, h3, h4, _⟩ := htv
      simp at e
      obtain ⟨_, _, _, rfl, rfl⟩ := e
      first | exact h3.rowOk hb | exact h4.rowOk hb

/-- A box whose rows have so many elements. -/
def BoxN (b : Nat) (w : World) (g ln on : Nat) : Prop := ∃ k n s lv ov, Blk w g TVAL #[.int .u8 k, .int .i64 n, .string s, lv, ov] ∧ RowOk b w TVAL 5 lv ln ∧ RowOk b w TFIELD 6 ov on
theorem BoxAt.n {b : Nat} {w : World} {g : Nat} (h : BoxAt b w g) : ∃ ln on, BoxN b w g ln on := by
  obtain ⟨k, n, s, lv, ov, ln, on, h⟩ := h
  exact ⟨ln, on, k, n, s, lv, ov, h⟩
theorem BoxN.look {b : Nat} {w : World} {g ln on : Nat} (h : BoxN b w g ln on) : (∃ A c, w.cell? ⟨g, 3, none⟩ = some (.slice A ln c) ∧ ln ≤ c ∧ c ≤ maxLen) ∧ ∃ A c, w.cell? ⟨g, 4, none⟩ = some (.slice A on c) ∧ on ≤ c ∧ c ≤ maxLen := by
  obtain ⟨k, n, s, lv, ov, h1, h2, h3⟩ := h
  obtain ⟨A, c, rfl, h4⟩ := h2.shape
  obtain ⟨A', c', rfl, h5⟩ := h3.shape
  exact ⟨⟨A, c, h1.cell 3, h4⟩, A', c', h1.cell 4, h5⟩
theorem cell_some {w : World} {g : Nat} {T : TypeId} {cur : Array Value} (h : Blk w g T cur) {i : Nat} (hi : i < cur.size) : ∃ u, w.cell? ⟨g, i, none⟩ = some u := ⟨cur[i], by rw [h.cell]; simp [hi]⟩
abbrev put99 (w : World) (g o : Nat) : World := set5 w g o (.int .u8 99) (.int .i64 0) (.string ⟨#[]⟩) (.slice none 0 0) (.slice none 0 0)
theorem BoxN.hitL {b : Nat} {w : World} {g ln on j : Nat} (h : BoxN b w g ln on) (hj : j < ln) (hbg : b ≤ g) : ∃ g1 cap, w.cell? ⟨g, 3, none⟩ = some (.slice (some ⟨g1, 0, none⟩) ln cap) ∧ ln ≤ cap ∧ cap ≤ maxLen ∧
    (∀ i, i < 5 → ∃ u, w.cell? ⟨g1, j * 5 + i, none⟩ = some u) ∧ (∀ i, w.frozen? ⟨g1, i, none⟩ = false) ∧ Keep (fun q => b ≤ q) w (put99 w g1 (j * 5)) ∧ ∃ ln' on', ln' ≤ ln ∧ on' ≤ on ∧ BoxN b (put99 w g1 (j * 5)) g ln' on' := by
  obtain ⟨k, n, s, lv, ov, h1, h2, h3⟩ := h
  rcases h2 with ⟨_, rfl⟩ | ⟨g1, cap, cur, rfl, h4, h5, h6, h7, h8⟩
  · omega
  refine ⟨g1, cap, h1.cell 3, h6, h7, fun i hi => cell_some h5 (by omega), fun i => h5.frozen i, (set5_keep _ _ _ _ _ _ _ _).mono (fun q _ e => by subst e; exact h4), ?_⟩
  by_cases hg : g1 = g
  · subst hg
    have hsz : cur.size = 5 := by
      have h9 : w.heap[g1]? = some (.cells cur TVAL (0, 0)) := h5
      have h10 : w.heap[g1]? = some (.cells #[.int .u8 k, .int .i64 n, .string s, .slice (some ⟨g1, 0, none⟩) ln cap, ov] TVAL (0, 0)) := h1
      rw [h9] at h10
      injection h10 with h10
      injection h10 with h10
      rw [h10]; rfl
    obtain rfl : j = 0 := by omega
    rw [Nat.zero_mul]
    exact ⟨0, 0, by omega, by omega, 99, 0, ⟨#[]⟩, _, _, set5_to h5 hsz _ _ _ _ _, .inl ⟨rfl, rfl⟩, .inl ⟨rfl, rfl⟩⟩
  · exact ⟨ln, on, Nat.le_refl _, Nat.le_refl _, k, n, s, _, _, h1.keep (set5_keep _ _ _ _ _ _ _ _) (fun e => hg e.symm), RowOk.store (.inr ⟨g1, cap, cur, rfl, h4, h5, h6, h7, h8⟩) (set5_keep _ _ _ _ _ _ _ _) (set5_size _ _ _ _ _ _ _ _), h3.store (set5_keep _ _ _ _ _ _ _ _) (set5_size _ _ _ _ _ _ _ _)⟩
theorem BoxN.hitO {b : Nat} {w : World} {g ln on j : Nat} (u : Value) (h : BoxN b w g ln on) (hj : j < on) (hbg : b ≤ g) : ∃ g1 cap, w.cell? ⟨g, 4, none⟩ = some (.slice (some ⟨g1, 0, none⟩) on cap) ∧ on ≤ cap ∧ cap ≤ maxLen ∧
    (∀ i, i < 6 → ∃ u, w.cell? ⟨g1, j * 6 + i, none⟩ = some u) ∧ (∀ i, w.frozen? ⟨g1, i, none⟩ = false) ∧ Keep (fun q => b ≤ q) w (w.setCell ⟨g1, j * 6, none⟩ u) ∧ BoxN b (w.setCell ⟨g1, j * 6, none⟩ u) g ln on := by
  obtain ⟨k, n, s, lv, ov, h1, h2, h3⟩ := h
  rcases h3 with ⟨_, rfl⟩ | ⟨g1, cap, cur, rfl, h4, h5, h6, h7, h8⟩
  · omega
  have hk : Keep (· = g1) w (w.setCell ⟨g1, j * 6, none⟩ u) := Keep.setAt (Keep.refl (· = g1) w) (fun _ => rfl) _ _
  refine ⟨g1, cap, h1.cell 4, h6, h7, fun i hi => cell_some h5 (by omega), fun i => h5.frozen i, hk.mono (fun q _ e => by subst e; exact h4), ?_⟩
  have hne : g ≠ g1 := h1.ne_ h5 (by decide)
  exact ⟨k, n, s, _, _, h1.keep hk hne, h2.store hk (set1_size _ _ _ _), RowOk.store (.inr ⟨g1, cap, cur, rfl, h4, h5, h6, h7, h8⟩) hk (set1_size _ _ _ _)⟩

set_option maxHeartbeats 6400000 in
theorem own_walk (lv cv : Value) (ts : List Tk) (cl : List UInt8) (w : World) (hl : Sl ETok w (fun _ => True) lv ts) (hc : BytesS w (fun _ => True) cv cl) :
    Calls Tryd.prog 3 #[lv, cv] w fun e w' => e = .returned (.bool true) ∧ Ext w w' := by
  obtain ⟨A, c, rfl, _, _⟩ := hl.shape
  obtain ⟨Ac, cc, rfl, _, _⟩ := hc.shape
  have HL := hid hl
  have HC := hid hc
  clear hl hc
  go_enter Tryd.func3, Tryd.ntmps3
  go_wp2_with fail
  refine (heavy_ok w _ _ _ _ ts [] HL.out (Sl.nil _ (fun _ => True))).mono ?_
  rintro e w1 ⟨b, rfl, hb, hE1⟩
  have HE1 := hid hE1
  have HB := hid hb
  clear hE1 hb
  have hend : ∀ wx, Ext w wx → Calls Tryd.prog 11 #[] wx fun e w' => e = .returned (.bool true) ∧ Ext w w' := fun wx h => (known3_ok wx).mono fun e w' h2 => ⟨h2.1, h.ext h2.2⟩
  have HEND := hid hend
  clear hend
  cases b with
  | true =>
    go_wp2_with fail
    refine (HEND.out w1 HE1.out).mono ?_
    rintro e w2 ⟨rfl, hE2⟩
    have HE2 := hid hE2
    clear hE2
    go_wp2
    go_ret
    exact ⟨rfl, HE2.out⟩
  | false =>
    by_cases h20 : 20 < cl.length
    · have h20X : (20 : Int) < cl.length := by omega
      go_wp2_with fail
      refine (HEND.out w1 HE1.out).mono ?_
      rintro e w2 ⟨rfl, hE2⟩
      have HE2 := hid hE2
      clear hE2
      go_wp2
      go_ret
      exact ⟨rfl, HE2.out⟩
    · have h20X : ¬ (20 : Int) < cl.length := by omega
      go_wp2_with fail
      refine (HEND.out w1 HE1.out).mono ?_
      rintro e w2 ⟨rfl, hE2⟩
      have HE2 := hid hE2
      clear hE2
      go_wp2_with fail
      refine (build_ok ts _ _ w2 (HL.out.ext ETok.ok HE2.out)).mono ?_
      rintro e w3 ⟨u, x, rfl, hsv, hsz, hva, hE3⟩
      obtain ⟨lx, ox, rfl, hlx, hox⟩ := hva
      obtain ⟨A1, c1, rfl, _⟩ := hlx.shape
      obtain ⟨A2, c2, rfl, _⟩ := hox.shape
      have hE4 : Ext w3 (w3.alloc (.cells #[U8 x.kind, .int .i64 x.n, .string x.s, .slice A1 x.l.length c1, .slice A2 x.o.length c2] TVAL)) := (Keep.refl _ _).alloc _
      have hb5 : Blk (w3.alloc (.cells #[U8 x.kind, .int .i64 x.n, .string x.s, .slice A1 x.l.length c1, .slice A2 x.o.length c2] TVAL)) w3.heap.size TVAL #[U8 x.kind, .int .i64 x.n, .string x.s, .slice A1 x.l.length c1, .slice A2 x.o.length c2] := Blk.new _ _ _
      have HVA := hid (show VAt (w3.alloc (.cells #[U8 x.kind, .int .i64 x.n, .string x.s, .slice A1 x.l.length c1, .slice A2 x.o.length c2] TVAL)) (fun q => q < w3.heap.size) (.agg #[U8 x.kind, .int .i64 x.n, .string x.s, .slice A1 x.l.length c1, .slice A2 x.o.length c2]) x from VAt.ext (VAt.more ⟨_, _, rfl, hlx, hox⟩ fun q h _ => h) hE4)
      have HSV := hid hsv
      have HB5 := hid hb5
      have HE4 := hid ((HE2.out.ext hE3).ext hE4)
      clear hlx hox hsv hb5 hE3 hE4
      go_wp2_with fail
      generalize w3.alloc (.cells #[U8 x.kind, .int .i64 x.n, .string x.s, .slice A1 x.l.length c1, .slice A2 x.o.length c2] TVAL) = w4 at *
      refine (rcopy_any _ x (Nat.le_refl _) (by omega) _ _ w4 HVA.out).mono ?_
      intro e w5 hcp
      obtain ⟨u5, rfl, hv5, hE5⟩ := hcp.at_
      obtain ⟨lx5, ox5, rfl, hlx, hox⟩ := hv5
      obtain ⟨A3, c3, rfl, _⟩ := hlx.shape
      obtain ⟨A4, c4, rfl, _⟩ := hox.shape
      have hE6 : Ext w5 (w5.alloc (.cells #[U8 x.kind, .int .i64 x.n, .string x.s, .slice A3 x.l.length c3, .slice A4 x.o.length c4] TVAL)) := (Keep.refl _ _).alloc _
      have hb6 : Blk (w5.alloc (.cells #[U8 x.kind, .int .i64 x.n, .string x.s, .slice A3 x.l.length c3, .slice A4 x.o.length c4] TVAL)) w5.heap.size TVAL #[U8 x.kind, .int .i64 x.n, .string x.s, .slice A3 x.l.length c3, .slice A4 x.o.length c4] := Blk.new _ _ _
      have HVB := hid (show VAt (w5.alloc (.cells #[U8 x.kind, .int .i64 x.n, .string x.s, .slice A3 x.l.length c3, .slice A4 x.o.length c4] TVAL)) (fun q => q < w5.heap.size) (.agg #[U8 x.kind, .int .i64 x.n, .string x.s, .slice A3 x.l.length c3, .slice A4 x.o.length c4]) x from VAt.ext (VAt.more ⟨_, _, rfl, hlx, hox⟩ fun q h _ => h) hE6)
      have HB6 := hid hb6
      have HB56 := hid ((HB5.out.keep hE5 id).keep hE6 id)
      have HE6 := hid ((HE4.out.ext hE5).ext hE6)
      have HVA6 := hid ((HVA.out.ext hE5).ext hE6)
      have q5 := blk5 HB56.out
      clear hlx hox hb6 hE5 hE6 HB5 HVA
      obtain ⟨q0, q1, q2, q3, q4⟩ := q5
      have hsz9 : x.size ≤ 1000000 := by omega
      go_wp2_with fail
      generalize w5.alloc (.cells #[U8 x.kind, .int .i64 x.n, .string x.s, .slice A3 x.l.length c3, .slice A4 x.o.length c4] TVAL) = w6 at *
      refine G.wp_region_grow (G.specOf [(3, WalkV x w6.heap.size), (4, GetV w6.heap.size), (8, BoxV w6.heap.size), (9, fun _ _ => True)])
        (fun w' => Ext w6 w') (fun _ => Step2 w6.heap.size) ?_ (stableC2 _) (by kernel_rfl) (by kernel_rfl) (Keep.drew (Keep.refl _ _)) ?_
      · exact G.stable_cons (fun j hj v w w' h he => h.step he) (G.stable_cons (fun j hj v w w' h he => h.step he) (G.stable_cons (fun j hj v w w' h he => h.step he) (G.stable_cons (fun j hj v w w' h he => trivial) G.stable_nil)))
      iterate 3
        (try simp only [Act.put, List.setIfInBounds_toArray, List.set_cons_zero, List.set_cons_succ])
        refine G.grow_run rfl rfl rfl ?_
        apply Exists.intro
        refine ⟨fun w' hC hK => ?_, ?_⟩
        · have q0 := (hC.cell (lt_of_cell q0) id).trans q0
          have q1 := (hC.cell (lt_of_cell q1) id).trans q1
          have q2 := (hC.cell (lt_of_cell q2) id).trans q2
          have q3 := (hC.cell (lt_of_cell q3) id).trans q3
          have q4 := (hC.cell (lt_of_cell q4) id).trans q4
          go_simp
          rfl
      (try simp only [Act.put, List.setIfInBounds_toArray, List.set_cons_zero, List.set_cons_succ])
      refine G.grow_eff rfl rfl rfl (fun w' hC hK => ?_) (fun v3 hv3 => ?_)
      · unfold G.growAt
        go_simp
        refine G.grow_call ((walk_ok x _ _ cl _ _ w' (HVA6.out.ext hC) HSV.out hsz9 ((HC.out.ext EU8.ok HE6.out).ext EU8.ok hC)).mono ?_)
        rintro e w'' ⟨u, p, rfl, h1, h2, h3⟩
        obtain ⟨A7, c7, rfl, _⟩ := h1.shape
        exact ⟨_, rfl, .inl h3, A7, _, c7, p, rfl, h1.less hC.size, h2⟩
      obtain ⟨_, _, A7, n7, c7, p7, rfl, _⟩ := hv3.head
      (try simp only [Act.put, List.setIfInBounds_toArray, List.set_cons_zero, List.set_cons_succ])
      refine G.grow_eff rfl rfl rfl (fun w' hC hK => ?_) (fun v4 hv4 => ?_)
      · unfold G.growAt
        go_simp
        obtain ⟨A8, n8, c8, p8, e8, hsl8, hw8⟩ : WalkV x w6.heap.size (.slice A7 n7 c7) w' := hK.get (i := 3) List.mem_cons_self (by kernel_rfl)
        exact G.grow_call ((path_get _ _ _ x p8 _ _ (HVA6.out.ext hC) (hsl8.sl ESt.ok) hsz9).mono fun e w'' h => by
          obtain ⟨v, h1, h2, h3⟩ := get_v hw8 hC.size h
          exact ⟨v, h1, .inl h2, h3⟩)
      obtain ⟨_, _, yk, yn, ys, A9, l9, c9, A10, o9, c10, rfl, _⟩ := hv4.head
      iterate 3
        (try simp only [Act.put, List.setIfInBounds_toArray, List.set_cons_zero, List.set_cons_succ])
        refine G.grow_run rfl rfl rfl ?_
        apply Exists.intro
        refine ⟨fun w' hC hK => ?_, ?_⟩
        · go_simp
          rfl
      (try simp only [Act.put, List.setIfInBounds_toArray, List.set_cons_zero, List.set_cons_succ])
      refine G.grow_eff rfl rfl rfl (fun w' hC hK => ?_) (fun v8 hv8 => ?_)
      · unfold G.growAt
        go_simp
        exact ⟨.inl ((Keep.refl _ _).alloc _), _, rfl, hC.size, 0, 0, ⟨#[]⟩, _, _, 0, 0, Blk.new _ _ _, .inl ⟨rfl, rfl⟩, .inl ⟨rfl, rfl⟩⟩
      obtain ⟨_, _, g, rfl, _⟩ := hv8.head
      (try simp only [Act.put, List.setIfInBounds_toArray, List.set_cons_zero, List.set_cons_succ])
      refine G.grow_eff rfl rfl rfl (fun w' hC hK => ?_) (fun v9 hv9 => ?_)
      · obtain ⟨g', e', hbg, k8, n8, s8, lv8, ov8, ln8, on8, hb8, hr8⟩ : BoxV w6.heap.size (.pointer (some ⟨g, 0, none⟩)) w' := hK.get (i := 8) List.mem_cons_self (by kernel_rfl)
        obtain rfl : g = g' := by injection e' with e'; injection e' with e'; injection e'
        obtain ⟨k4, n4, s4, A4', l4, c4', A5', o4, c5', e4, hr4, hr5⟩ : GetV w6.heap.size (.tuple #[.agg #[U8 yk, .int .i64 yn, .string ys, .slice A9 l9 c9, .slice A10 o9 c10], .int .u16 0]) w' := hK.get (i := 4) (List.mem_cons_of_mem _ List.mem_cons_self) (by kernel_rfl)
        have hr45 : RowOk w6.heap.size w' TVAL 5 (.slice A9 l9 c9) l9 ∧ RowOk w6.heap.size w' TFIELD 6 (.slice A10 o9 c10) o9 := by
          simp at e4
          obtain ⟨_, _, _, ⟨rfl, rfl, rfl⟩, rfl, rfl, rfl⟩ := e4
          exact ⟨hr4, hr5⟩
        obtain ⟨z0, z1, z2, z3, z4⟩ := blk5 hb8
        have f0 := hb8.frozen 0
        have f1 := hb8.frozen 1
        have f2 := hb8.frozen 2
        have f3 := hb8.frozen 3
        have f4 := hb8.frozen 4
        have HF := hid (show Fill w6.heap.size w' (set5 w' g 0 (U8 yk) (.int .i64 yn) (.string ys) (.slice A9 l9 c9) (.slice A10 o9 c10)) from ⟨g, _, _, _, _, _, _, _, _, hbg, hb8, rfl, hr45.1, hr45.2, rfl⟩)
        unfold G.growAt
        clear hr4 hr5 hr45 hb8 hr8 e4
        go_simp
        exact ⟨.inr HF.out, trivial⟩
      iterate 1
        (try simp only [Act.put, List.setIfInBounds_toArray, List.set_cons_zero, List.set_cons_succ])
        refine G.grow_run rfl rfl rfl ?_
        apply Exists.intro
        refine ⟨fun w' hC hK => ?_, ?_⟩
        · go_simp
          rfl
      refine G.grow_nil fun w7 hC hK => ?_
      have hC : Ext w6 w7 := hC
      obtain ⟨g', e', hbg, hbox⟩ : BoxV w6.heap.size (.pointer (some ⟨g, 0, none⟩)) w7 := hK (8, _) (List.mem_cons_of_mem _ List.mem_cons_self)
      obtain rfl : g = g' := by injection e' with e'; injection e' with e'; injection e'
      have HC7 := hid hC
      have HBOX := hid hbox
      clear hC hK e' hbox hv9 hv8 hv4 hv3 q0 q1 q2 q3 q4
      obtain ⟨L0, O0, hbn⟩ := HBOX.out.n
      have HBN := hid hbn
      clear hbn HBOX
      go_wp2_with fail
      go_loopw [9] (fun i wr => ∃ j ln on : Nat, i = .int .i64 j ∧ j ≤ L0 ∧ ln ≤ L0 ∧ on ≤ O0 ∧ BoxN w6.heap.size wr g ln on ∧ Keep (fun q => w6.heap.size ≤ q) w7 wr) (fun i _ => L0 - (intOf i).toNat)
      case atStart => exact ⟨0, L0, O0, rfl, by omega, by omega, by omega, HBN.out, Keep.refl _ _⟩
      case round =>
        obtain ⟨j, ln, on, rfl, hj, hln, hon, hbx, hkr⟩ := hrel
        have HK := hid hkr
        by_cases hlt : j < ln
        · obtain ⟨g1, cap, x3, hc1, hc2, hcs, hfr, hkk, ln', on', hl', ho', hbx'⟩ := hbx.hitL hlt hbg
          obtain ⟨v0, c0⟩ := hcs 0 (by omega)
          obtain ⟨v1, c1'⟩ := hcs 1 (by omega)
          obtain ⟨v2, c2'⟩ := hcs 2 (by omega)
          obtain ⟨v3, c3'⟩ := hcs 3 (by omega)
          obtain ⟨v4, c4'⟩ := hcs 4 (by omega)
          have f0 := hfr (j * 5)
          have f1 := hfr (j * 5 + 1)
          have f2 := hfr (j * 5 + 2)
          have f3 := hfr (j * 5 + 3)
          have f4 := hfr (j * 5 + 4)
          simp only [Nat.add_zero] at c0
          have HX := hid (And.intro hbx' (HK.out.trans hkk fun q _ h => h))
          have hjX : (j : Int) < ln := by omega
          unfold maxLen at hc2
          clear hbx hkr hcs hfr hbx' hkk
          go_wp2
          exact ⟨⟨j + 1, ln', on', by go_num, by omega, by omega, by omega, HX.out.1, HX.out.2⟩, by simp [intOf]; omega⟩
        · obtain ⟨⟨A11, c11, x3, hc1, hc2⟩, _⟩ := hbx.look
          unfold maxLen at hc2
          have HBX := hid hbx
          have hjX : ¬ (j : Int) < ln := by omega
          clear hbx hkr
          obtain ⟨wl, hwl⟩ : ∃ wl, wl = wr := ⟨_, rfl⟩
          go_wp2_with fail
          clear x3
          go_loopw [10] (fun i wr => ∃ j ln on : Nat, i = .int .i64 j ∧ j ≤ O0 ∧ on ≤ O0 ∧ BoxN w6.heap.size wr g ln on ∧ Keep (fun q => w6.heap.size ≤ q) w7 wr) (fun i _ => O0 - (intOf i).toNat)
          case atStart => exact ⟨0, ln, on, rfl, by omega, by omega, HBX.out, HK.out⟩
          case round =>
            clear HBX HK
            obtain ⟨j, ln, on, rfl, hj, hon, hbx, hkr⟩ := hrel
            have HK := hid hkr
            by_cases hlt : j < on
            · obtain ⟨g1, cap, x4, hc1, hc2, hcs, hfr, hkk, hbx'⟩ := hbx.hitO (.string ⟨#[63]⟩) hlt hbg
              obtain ⟨v0, c0⟩ := hcs 0 (by omega)
              have f0 := hfr (j * 6)
              simp only [Nat.add_zero] at c0
              have HX := hid (And.intro hbx' (HK.out.trans hkk fun q _ h => h))
              have hjX : (j : Int) < on := by omega
              unfold maxLen at hc2
              clear hbx hkr hcs hfr hbx' hkk
              go_wp2
              exact ⟨⟨j + 1, ln, on, by go_num, by omega, by omega, HX.out.1, HX.out.2⟩, by simp [intOf]; omega⟩
            · obtain ⟨_, ⟨A11, c11, x4, hc1, hc2⟩⟩ := hbx.look
              unfold maxLen at hc2
              have hjX : ¬ (j : Int) < on := by omega
              have hb5 := (HB56.out.keep HC7.out id).keep hkr (fun e => by have := HB56.out.lt; omega)
              have hb6 := (HB6.out.keep HC7.out id).keep hkr (fun e => by have := HB6.out.lt; omega)
              obtain ⟨q0, q1, q2, q3, q4⟩ := blk5 hb5
              obtain ⟨r0, r1, r2, r3, r4⟩ := blk5 hb6
              have hsm := same_eq _ x (Nat.le_refl _) _ _ _ _ wr ((HVA6.out.ext HC7.out).keep hkr fun q hq e => by have := HB56.out.lt; omega) ((HVB.out.ext HC7.out).keep hkr fun q hq e => by have := HB6.out.lt; omega)
              have HSM := hid hsm
              have HW := hid ((HE6.out.ext HC7.out).trans hkr fun q hq e => by have := HE6.out.size; omega)
              clear hbx hkr hb5 hb6 hsm
              go_wp2_with fail
              refine HSM.out.mono ?_
              rintro e w9 ⟨rfl, hE9⟩
              have HW9 := hid (HW.out.ext hE9)
              clear hE9
              go_wp2
              go_ret
              exact ⟨rfl, HW9.out⟩
end Go.Proofs.YtjdpljjbgggpiaaDoor
