/- TurnH, SeqA, TurnI: laid together. -/
import Derived.Test.YtioplgfopillnaaApB27
import Derived.Test.YtioplgfopillnaaApB3
import Derived.Test.YtioplgfopillnaaApB6
/- law07: heavy. -/
set_option linter.unusedSimpArgs false
set_option linter.unusedVariables false
namespace Go.Proofs.Ytioplgfopillnaa
open Go.RowKit
set_option linter.unusedVariables false

def Truth7 (w : World) (e : Ending) (w' : World) : Prop := ∃ b : Bool, e = .returned (.bool b) ∧ Ext w w'
set_option maxRecDepth 20000 in
set_option maxHeartbeats 3200000 in
theorem heavy7_any (w : World) (S S1 S2 : BS) (lv av bv : Value) (l : List Tk) (a b : Ac) (hl : Sl ETok w S lv l) (ha : AAt w S1 av a) (hb : AAt w S2 bv b) :
    Calls Try.prog 4 #[lv, av, bv] w (Truth7 w) := by
  obtain ⟨A, c, rfl, hlc, hcm⟩ := hl.shape
  unfold maxLen at hcm
  obtain ⟨p1, v1, rfl, a1, a2⟩ := ha
  obtain ⟨p2, v2, rfl, b1, b2⟩ := hb
  obtain ⟨Aa, ca, rfl, _⟩ := a1.shape
  obtain ⟨Av, cv, rfl, _⟩ := a2.shape
  obtain ⟨Ba, da, rfl, _⟩ := b1.shape
  obtain ⟨Bv, dv, rfl, _⟩ := b2.shape
  obtain ⟨W, hW⟩ : ∃ W, (w.alloc (.cells (acCells a (.slice Aa a.path.length ca) (.slice Av a.v.length cv)) TACT)).alloc (.cells (acCells b (.slice Ba b.path.length da) (.slice Bv b.v.length dv)) TACT) = W := ⟨_, rfl⟩
  have hE : Ext w W := by rw [← hW]; exact ((Keep.refl _ _).alloc _).alloc _
  have hba : Blk W w.heap.size TACT (acCells a (.slice Aa a.path.length ca) (.slice Av a.v.length cv)) := by rw [← hW]; exact (Blk.new _ _ _).alloc _
  have hbb : Blk W (w.heap.size + 1) TACT (acCells b (.slice Ba b.path.length da) (.slice Bv b.v.length dv)) := by
    have := Blk.new (w.alloc (.cells (acCells a (.slice Aa a.path.length ca) (.slice Av a.v.length cv)) TACT)) TACT (acCells b (.slice Ba b.path.length da) (.slice Bv b.v.length dv))
    rw [World.size_alloc, hW] at this
    exact this
  have H := hid (hl.ext ETok.ok hE)
  have HA1 := hid ((a1.more (S' := fun _ => True) EU8.ok fun _ _ _ => trivial).ext EU8.ok hE)
  have HA2 := hid ((a2.more (S' := fun _ => True) ETok.ok fun _ _ _ => trivial).ext ETok.ok hE)
  have HB1 := hid ((b1.more (S' := fun _ => True) EU8.ok fun _ _ _ => trivial).ext EU8.ok hE)
  have HB2 := hid ((b2.more (S' := fun _ => True) ETok.ok fun _ _ _ => trivial).ext ETok.ok hE)
  have HE := hid hE
  obtain ⟨n, hn⟩ : ∃ n, l.length = n := ⟨_, rfl⟩
  rw [hn] at H hlc ⊢
  have HN := hid hn
  have x0 := hba.cell 0
  have y0 := hbb.cell 0
  have x1 := hba.cell 1
  have y1 := hbb.cell 1
  have x2 := hba.cell 2
  have y2 := hbb.cell 2
  have x3 := hba.cell 3
  have y3 := hbb.cell 3
  have x4 := hba.cell 4
  have y4 := hbb.cell 4
  have x5 := hba.cell 5
  have y5 := hbb.cell 5
  have x6 := hba.cell 6
  have y6 := hbb.cell 6
  simp at x0 y0 x1 y1 x2 y2 x3 y3 x4 y4 x5 y5 x6 y6
  have hRow : ∀ w1 : World, Ext W w1 → Sl EAc (w1.alloc (.cells #[.slice Aa a.path.length ca, U8 a.kind, .int .i64 a.i, .int .i64 a.j, .int .i64 a.n, .string a.s, .slice Av a.v.length cv, .slice Ba b.path.length da, U8 b.kind, .int .i64 b.i, .int .i64 b.j, .int .i64 b.n, .string b.s, .slice Bv b.v.length dv] TACT)) (fun _ => True) (.slice (some ⟨w1.heap.size, 0, none⟩) 2 2) [a, b] := fun w1 h => by
    have he := h.ext ((Keep.refl (fun _ => False) w1).alloc (.cells #[.slice Aa a.path.length ca, U8 a.kind, .int .i64 a.i, .int .i64 a.j, .int .i64 a.n, .string a.s, .slice Av a.v.length cv, .slice Ba b.path.length da, U8 b.kind, .int .i64 b.i, .int .i64 b.j, .int .i64 b.n, .string b.s, .slice Bv b.v.length dv] TACT))
    refine ⟨[_, _, _, _, _, _, _, _, _, _, _, _, _, _], (RowS.new (w := w1) (t := TACT) (sz := 7) (n := 2) (cs := [_, _, _, _, _, _, _, _, _, _, _, _, _, _]) rfl (by simp [maxLen])).more fun _ _ _ => trivial, ?_⟩
    exact ⟨[_, _, _, _, _, _, _], [_, _, _, _, _, _, _], rfl, ⟨_, _, rfl, HA1.out.ext EU8.ok he, HA2.out.ext ETok.ok he⟩, ⟨[_, _, _, _, _, _, _], [], rfl, ⟨_, _, rfl, HB1.out.ext EU8.ok he, HB2.out.ext ETok.ok he⟩, rfl⟩⟩
  have HROW := hid hRow
  clear hl a1 a2 b1 b2 hE hba hbb hn hRow
  go_enter Try.func4, Try.ntmps4
  go_wp2_with fail
  go_loopw [7, 8] (fun y i wr => ∃ (j : Nat) (z : Int), j ≤ n ∧ i = .int .i64 j ∧ y = .int .i64 z ∧ wr = W) (fun _ i _ => n - (intOf i).toNat)
  case atStart => exact ⟨0, 0, by omega, rfl, rfl, rfl⟩
  case round =>
    obtain ⟨j, z, hj, rfl, rfl, rfl⟩ := hrel
    by_cases hlt : j < n
    · have hX : (j : Int) < n := by omega
      obtain ⟨b2, o2, c2, rfl, _, _, hr2, hc2⟩ := H.out.at_ ETok.ok (k := j) (by rw [HN.out]; exact hlt)
      have hr2 : c2 = [U8 _, .int .i64 _, .string _, U8 _] := hr2
      subst hr2
      have t2 := hc2 2 _ rfl
      have e4 : ETok.size = 4 := rfl
      simp only [e4] at t2
      clear hc2 e4
      go_wp2
      exact ⟨⟨j + 1, _, by omega, by go_num, rfl, by first | trivial | rfl⟩, by simp [intOf]; omega⟩
    · obtain rfl : j = n := by omega
      have hX : ¬ (j : Int) < j := by omega
      by_cases hz : (2000 : Int) < z
      · go_wp2
        go_ret
        exact ⟨_, rfl, HE.out⟩
      · have HR := hid (HROW.out _ (Keep.refl _ _))
        have HEA := hid ((Keep.refl (fun _ => False) wr).alloc (.cells #[.slice Aa a.path.length ca, U8 a.kind, .int .i64 a.i, .int .i64 a.j, .int .i64 a.n, .string a.s, .slice Av a.v.length cv, .slice Ba b.path.length da, U8 b.kind, .int .i64 b.i, .int .i64 b.j, .int .i64 b.n, .string b.s, .slice Bv b.v.length dv] TACT))
        go_wp2_with fail
        refine (heavy6_any _ _ _ _ HR.out).mono ?_
        rintro e w2 ⟨z2, rfl, hE2⟩
        have HE2 := hid ((HE.out.ext HEA.out).ext hE2)
        clear hE2
        go_wp2
        go_ret
        exact ⟨_, rfl, HE2.out⟩
end Go.Proofs.Ytioplgfopillnaa

/- seq: small functions by contract: known, below, upto, At. -/
set_option linter.unusedSimpArgs false
set_option linter.unusedVariables false
namespace Go.Proofs.Ytioplgfopillnaa
open Go.RowKit
set_option linter.unusedVariables false

/-- A component's value; what lies behind the opaque cells does not matter here. -/
abbrev cmpV (k : Value) (p key : Value) (i j : Int) (nn v0 v1 v2 v3 v4 s : Value) : Value := .agg #[k, p, key, .int .i64 i, .int .i64 j, nn, v0, v1, v2, v3, v4, s]
def knownL (k : UInt8) : Bool := k == 4 || k == 5 || k == 6 || k == 7
def bl (a b : Int) : Int := if a < b then 1 else 0
def up (a b : Int) (same : Bool) : Int := if a = b ∧ same = true then 1 else bl a b
theorem bl_bd (a b : Int) : 0 ≤ bl a b ∧ bl a b ≤ 1 := by unfold bl; split <;> omega
theorem up_bd (a b : Int) (s : Bool) : 0 ≤ up a b s ∧ up a b s ≤ 1 := by unfold up; split; omega; exact bl_bd a b

/-- One of the four kinds, or another one. -/
theorem kind_cases (k : UInt8) : k = 4 ∨ k = 5 ∨ k = 6 ∨ k = 7 ∨ (knownL k = false ∧ ((k.toNat : Int) == 4) = false ∧ ((k.toNat : Int) == 5) = false ∧ ((k.toNat : Int) == 6) = false ∧ ((k.toNat : Int) == 7) = false) := by
  by_cases h4 : k = 4
  · exact .inl h4
  by_cases h5 : k = 5
  · exact .inr (.inl h5)
  by_cases h6 : k = 6
  · exact .inr (.inr (.inl h6))
  by_cases h7 : k = 7
  · exact .inr (.inr (.inr (.inl h7)))
  have hn : ∀ n : Nat, n < 256 → k ≠ UInt8.ofNat n → ((k.toNat : Int) == (n : Int)) = false := fun n hn h => by
    simp only [beq_eq_false_iff_ne, ne_eq]
    intro e
    apply h
    apply UInt8.toNat.inj
    simp; omega
  exact .inr (.inr (.inr (.inr ⟨by simp [knownL, h4, h5, h6, h7], hn 4 (by omega) h4, hn 5 (by omega) h5, hn 6 (by omega) h6, hn 7 (by omega) h7⟩)))

set_option maxHeartbeats 800000 in
theorem known_any (k : UInt8) (p key nn v0 v1 v2 v3 v4 s : Value) (i j : Int) (w : World) :
    Calls Try.prog 43 #[cmpV (U8 k) p key i j nn v0 v1 v2 v3 v4 s] w fun e w' => e = .returned (.bool (knownL k)) ∧ Ext w w' := by
  rcases kind_cases k with rfl | rfl | rfl | rfl | ⟨h0, h4, h5, h6, h7⟩
  all_goals
    go_enter Try.func43, Try.ntmps43
    go_wp2
    go_ret
    exact ⟨by first | rfl | (rw [h0]; rfl), (Keep.refl _ _).alloc _⟩
theorem below_any (a b : Int) (w : World) : Calls Try.prog 42 #[.int .i64 a, .int .i64 b] w fun e w' => e = .returned (.int .i64 (bl a b)) ∧ w = w' := by
  unfold bl
  by_cases h : a < b
  all_goals
    go_enter Try.func42, Try.ntmps42
    go_wp2
    go_ret
    exact ⟨by simp [h], rfl⟩
theorem upto_any (a b : Int) (s : Bool) (w : World) : Calls Try.prog 41 #[.int .i64 a, .int .i64 b, .bool s] w fun e w' => e = .returned (.int .i64 (up a b s)) ∧ w = w' := by
  by_cases h : a = b
  · subst h
    have hb : (a == a) = true := by simp
    cases s
    all_goals
      go_enter Try.func41, Try.ntmps41
      go_wp2_with (go_at_call 42; refine (below_any _ _ _).mono ?_; rintro e w' ⟨rfl, rfl⟩)
      go_ret
      exact ⟨by simp [up, bl], rfl⟩
  · have hb : (a == b) = false := by simpa using h
    cases s
    all_goals
      go_enter Try.func41, Try.ntmps41
      go_wp2_with (go_at_call 42; refine (below_any _ _ _).mono ?_; rintro e w' ⟨rfl, rfl⟩)
      go_ret
      exact ⟨by simp [up, h], rfl⟩

/-- Small enough that no sum wraps. -/
def Sm (a : Int) : Prop := -1099511627776 ≤ a ∧ a ≤ 1099511627776

def atL (k : UInt8) (ci cj i : Int) : Int × Bool :=
  if k = 4 then (i + up ci i true, true)
  else if k = 7 ∧ ci = i then (cj, true)
  else if k = 7 then (i - bl ci i + up cj (i - bl ci i) true, true)
  else if (k = 5 ∨ k = 6) ∧ ci = i then (0, false)
  else if k = 5 then (i - bl ci i, true)
  else (i, true)

set_option maxHeartbeats 1600000 in
theorem at_any (k : UInt8) (p key nn v0 v1 v2 v3 v4 s : Value) (ci cj i : Int) (w : World) (hi : Sm i) (hci : Sm ci) (hcj : Sm cj) :
    Calls Try.prog 35 #[.int .i64 i, cmpV (U8 k) p key ci cj nn v0 v1 v2 v3 v4 s] w fun e w' => e = .returned (.tuple #[.int .i64 (atL k ci cj i).1, .bool (atL k ci cj i).2]) ∧ Ext w w' := by
  obtain ⟨hi1, hi2⟩ := hi
  obtain ⟨hci1, hci2⟩ := hci
  obtain ⟨hcj1, hcj2⟩ := hcj
  have hu1 := up_bd ci i true
  have hb1 := bl_bd ci i
  have hu2 := up_bd cj (i - bl ci i) true
  by_cases he : ci = i
  · have he' : (ci == i) = true := by simpa using he
    have he2 : (i == i) = true := by simp
    rcases kind_cases k with rfl | rfl | rfl | rfl | ⟨h0, h4, h5, h6, h7⟩
    case' inr.inr.inr.inr => have HK := hid (show k ≠ 4 ∧ k ≠ 5 ∧ k ≠ 6 ∧ k ≠ 7 from by simp [knownL] at h0; exact ⟨h0.1.1.1, h0.1.1.2, h0.1.2, h0.2⟩)
    all_goals
      subst he
      go_enter Try.func35, Try.ntmps35
      go_wp2_with (first | (go_at_call 42; refine (below_any _ _ _).mono ?_; rintro e w' ⟨rfl, rfl⟩) | (go_at_call 41; refine (upto_any _ _ _ _).mono ?_; rintro e w' ⟨rfl, rfl⟩))
      go_ret2
      first | (obtain ⟨k4, k5, k6, k7⟩ := HK.out; exact ⟨by simp [atL, k4, k5, k6, k7], (Keep.refl _ _).alloc _⟩) | exact ⟨by simp [atL], (Keep.refl _ _).alloc _⟩
  · have he' : (ci == i) = false := by simpa using he
    have HNE := hid he
    clear he
    rcases kind_cases k with rfl | rfl | rfl | rfl | ⟨h0, h4, h5, h6, h7⟩
    case' inr.inr.inr.inr => have HK := hid (show k ≠ 4 ∧ k ≠ 5 ∧ k ≠ 6 ∧ k ≠ 7 from by simp [knownL] at h0; exact ⟨h0.1.1.1, h0.1.1.2, h0.1.2, h0.2⟩)
    all_goals
      go_enter Try.func35, Try.ntmps35
      go_wp2_with (first | (go_at_call 42; refine (below_any _ _ _).mono ?_; rintro e w' ⟨rfl, rfl⟩) | (go_at_call 41; refine (upto_any _ _ _ _).mono ?_; rintro e w' ⟨rfl, rfl⟩))
      go_ret2
      first | (obtain ⟨k4, k5, k6, k7⟩ := HK.out; exact ⟨by simp [atL, HNE.out, k4, k5, k6, k7], (Keep.refl _ _).alloc _⟩) | exact ⟨by simp [atL, HNE.out], (Keep.refl _ _).alloc _⟩
end Go.Proofs.Ytioplgfopillnaa

/- turn.family, turn.fields, turn.through. -/
set_option linter.unusedSimpArgs false
set_option linter.unusedVariables false
namespace Go.Proofs.Ytioplgfopillnaa
open Go.RowKit
set_option linter.unusedVariables false

/-- What a component works on. -/
def famN (k : Nat) : Nat := if k = 1 then 2 else if k = 2 ∨ k = 3 then 5 else if k = 4 ∨ k = 5 ∨ k = 6 ∨ k = 7 then 4 else if k = 8 ∨ k = 9 then 3 else 0
set_option maxHeartbeats 3200000 in
theorem family_ok (w : World) (k : UInt8) (p key i j n v0 v1 v2 v3 v4 s : Value) :
    Calls Try.prog 34 #[.agg #[U8 k, p, key, i, j, n, v0, v1, v2, v3, v4, s]] w fun e w' => e = .returned (.int .u8 (famN k.toNat : Int)) ∧ Ext w w' := by
  have hE : Ext w (w.alloc (.cells #[U8 k, p, key, i, j, n, v0, v1, v2, v3, v4, s] TCMP)) := (Keep.refl _ _).alloc _
  have HE := hid hE
  clear hE
  obtain ⟨q, hq⟩ : ∃ q, k.toNat = q := ⟨_, rfl⟩
  have hc : q = 1 ∨ q = 2 ∨ q = 3 ∨ q = 4 ∨ q = 5 ∨ q = 6 ∨ q = 7 ∨ q = 8 ∨ q = 9 ∨ (q ≠ 1 ∧ q ≠ 2 ∧ q ≠ 3 ∧ q ≠ 4 ∧ q ≠ 5 ∧ q ≠ 6 ∧ q ≠ 7 ∧ q ≠ 8 ∧ q ≠ 9) := by omega
  rw [show U8 k = .int .u8 (q : Int) from by rw [← hq]] at *
  have hfam : famN k.toNat = famN q := by rw [hq]
  rw [hfam]
  clear hq hfam
  rcases hc with rfl | rfl | rfl | rfl | rfl | rfl | rfl | rfl | rfl | ⟨h1, h2, h3, h4, h5, h6, h7, h8, h9⟩
  case' inr.inr.inr.inr.inr.inr.inr.inr.inr =>
    have g1 : ((q : Int) == 1) = false := by simp; omega
    have g2 : ((q : Int) == 2) = false := by simp; omega
    have g3 : ((q : Int) == 3) = false := by simp; omega
    have g4 : ((q : Int) == 4) = false := by simp; omega
    have g5 : ((q : Int) == 5) = false := by simp; omega
    have g6 : ((q : Int) == 6) = false := by simp; omega
    have g7 : ((q : Int) == 7) = false := by simp; omega
    have g8 : ((q : Int) == 8) = false := by simp; omega
    have g9 : ((q : Int) == 9) = false := by simp; omega
    have HF := hid (show famN q = 0 from by unfold famN; rw [if_neg h1, if_neg (by omega), if_neg (by omega), if_neg (by omega)])
    clear h1 h2 h3 h4 h5 h6 h7 h8 h9
  all_goals
    go_enter Try.func34, Try.ntmps34
    go_wp2
    go_ret
    first | exact ⟨rfl, HE.out⟩ | (rw [HF.out]; exact ⟨rfl, HE.out⟩)

/-- A pointer to a step in a row that may be written. -/
def StepAt (w : World) (g o : Nat) (s : St) : Prop := w.cell? ⟨g, o, none⟩ = some (.bool s.list) ∧ w.cell? ⟨g, o + 1, none⟩ = some (.int .i64 s.i) ∧ w.cell? ⟨g, o + 2, none⟩ = some (.string s.key) ∧ w.frozen? ⟨g, o + 1, none⟩ = false
/-- What is left of a step, and whether anything is. -/
def thrL (s : St) (y : Cp) : Int × Bool :=
  if famN y.kind.toNat = 5 ∧ s.list = false then (s.i, s.key.toList != y.key.toList) else if famN y.kind.toNat = 4 ∧ s.list = true then atL y.kind y.i y.j s.i else (s.i, true)
def ThrIs (w : World) (g o : Nat) (s : St) (y : Cp) (e : Ending) (w' : World) : Prop :=
  e = .returned (.bool (thrL s y).2) ∧ ∃ w1, Ext w w1 ∧ (w' = w1.setCell ⟨g, o + 1, none⟩ (.int .i64 (thrL s y).1) ∨ (w' = w1 ∧ (thrL s y).1 = s.i))
set_option maxRecDepth 20000 in
set_option maxHeartbeats 3200000 in
theorem through_ok (w : World) (g o : Nat) (s : St) (y : Cp) (p v0 v1 v2 v3 v4 : Value) (hs : StepAt w g o s) (hsi : Sm s.i) (hyi : Sm y.i) (hyj : Sm y.j) :
    Calls Try.prog 20 #[.pointer (some ⟨g, o, none⟩), .agg #[U8 y.kind, p, .string y.key, .int .i64 y.i, .int .i64 y.j, .int .i64 y.n, v0, v1, v2, v3, v4, .string y.s]] w (ThrIs w g o s y) := by
  obtain ⟨h0, h1, h2, h3⟩ := hs
  obtain ⟨W, hW⟩ : ∃ W, w.alloc (.cells #[U8 y.kind, p, .string y.key, .int .i64 y.i, .int .i64 y.j, .int .i64 y.n, v0, v1, v2, v3, v4, .string y.s] TCMP) = W := ⟨_, rfl⟩
  have hE : Ext w W := by rw [← hW]; exact (Keep.refl _ _).alloc _
  have hb : Blk W w.heap.size TCMP #[U8 y.kind, p, .string y.key, .int .i64 y.i, .int .i64 y.j, .int .i64 y.n, v0, v1, v2, v3, v4, .string y.s] := by rw [← hW]; exact Blk.new _ _ _
  have hlt := lt_of_cell h1
  have HH0 := hid ((hE.cell (lt_of_cell h0) id).trans h0)
  have HH1 := hid ((hE.cell (lt_of_cell h1) id).trans h1)
  have HH2 := hid ((hE.cell (lt_of_cell h2) id).trans h2)
  have HH3 := hid (show W.frozen? ⟨g, o + 1, none⟩ = false from by rw [hE.frozen hlt id]; exact h3)
  have HB := hid hb
  have HE := hid hE
  have HSI := hid hsi
  have HYI := hid hyi
  have HYJ := hid hyj
  have a0 := hb.cell 0
  have a1 := hb.cell 1
  have a2 := hb.cell 2
  have a3 := hb.cell 3
  have a4 := hb.cell 4
  have a5 := hb.cell 5
  have a6 := hb.cell 6
  have a7 := hb.cell 7
  have a8 := hb.cell 8
  have a9 := hb.cell 9
  have a10 := hb.cell 10
  have a11 := hb.cell 11
  simp at a2 a3 a4 a5 a11
  clear h0 h1 h2 h3 hb hE hlt hsi hyi hyj
  go_enter Try.func20, Try.ntmps20
  go_wp2_with fail
  refine (family_ok W y.kind _ _ _ _ _ _ _ _ _ _ _).mono ?_
  rintro e w1 ⟨rfl, hE1⟩
  obtain ⟨f, hf⟩ : ∃ f, famN y.kind.toNat = f := ⟨_, rfl⟩
  have HF := hid hf
  rw [hf]
  have h0 := (hE1.cell (lt_of_cell HH0.out) id).trans HH0.out
  have h1 := (hE1.cell (lt_of_cell HH1.out) id).trans HH1.out
  have h2 := (hE1.cell (lt_of_cell HH2.out) id).trans HH2.out
  have h3 : w1.frozen? ⟨g, o + 1, none⟩ = false := by rw [hE1.frozen (lt_of_cell HH1.out) id]; exact HH3.out
  have HB1 := hid (HB.out.keep hE1 id)
  have HE1 := hid (HE.out.ext hE1)
  clear hf hE1 HB HE HH0 HH1 HH2 HH3 hW a0 a1 a2 a3 a4 a5 a6 a7 a8 a9 a10 a11
  have a0 := HB1.out.cell 0
  have a1 := HB1.out.cell 1
  have a2 := HB1.out.cell 2
  have a3 := HB1.out.cell 3
  have a4 := HB1.out.cell 4
  have a5 := HB1.out.cell 5
  have a6 := HB1.out.cell 6
  have a7 := HB1.out.cell 7
  have a8 := HB1.out.cell 8
  have a9 := HB1.out.cell 9
  have a10 := HB1.out.cell 10
  have a11 := HB1.out.cell 11
  simp at a2 a3 a4 a5 a11
  by_cases h5 : f = 5
  · subst h5
    cases hl : s.list with
    | false =>
      rw [hl] at h0
      go_wp2_with fail
      refine wp_region_grow (specOf []) (fun w' => Ext w1 w') stable_nil (stableC_ext _) (by kernel_rfl) (by kernel_rfl) (Keep.drew (Keep.refl _ _)) ?_
      iterate 8
        (try simp only [Act.put, List.setIfInBounds_toArray, List.set_cons_zero, List.set_cons_succ])
        refine grow_run rfl rfl rfl ?_
        apply Exists.intro
        refine ⟨fun w' hC hK => ?_, ?_⟩
        · have h2 := (hC.cell (lt_of_cell h2) id).trans h2
          have a2 := (hC.cell (lt_of_cell a2) id).trans a2
          go_simp
          rfl
      refine grow_nil fun w2 hC _ => ?_
      have HC := hid (show Ext w1 w2 from hC)
      clear hC
      go_wp2
      go_ret
      have ht : thrL s y = (s.i, s.key.toList != y.key.toList) := by unfold thrL; rw [if_pos ⟨HF.out, hl⟩]
      exact ⟨by rw [ht]; rfl, w2, HE1.out.ext HC.out, .inr ⟨rfl, by rw [ht]⟩⟩
    | true =>
      rw [hl] at h0
      go_wp2
      go_ret
      have ht : thrL s y = (s.i, true) := by unfold thrL; rw [if_neg (by rw [hl]; simp), if_neg (by rw [HF.out]; simp)]
      exact ⟨by rw [ht]; rfl, w1, HE1.out, .inr ⟨rfl, by rw [ht]⟩⟩
  · have h5X : ((f : Int) == 5) = false := by simp; omega
    by_cases h4 : f = 4
    · subst h4
      cases hl : s.list with
      | false =>
        rw [hl] at h0
        go_wp2
        go_ret
        have ht : thrL s y = (s.i, true) := by unfold thrL; rw [if_neg (by rw [HF.out]; simp), if_neg (by rw [hl]; simp)]
        exact ⟨by rw [ht]; rfl, w1, HE1.out, .inr ⟨rfl, by rw [ht]⟩⟩
      | true =>
        rw [hl] at h0
        go_wp2_with fail
        obtain ⟨r, hr⟩ : ∃ r, atL y.kind y.i y.j s.i = r := ⟨_, rfl⟩
        have HRR := hid hr
        have HCALL := hid (fun w' => at_any y.kind p (.string y.key) (.int .i64 y.n) v0 v1 v2 v3 v4 (.string y.s) y.i y.j s.i w' HSI.out HYI.out HYJ.out)
        rw [hr] at HCALL
        clear hr
        refine wp_region_parts [] [0, 1, 2, 3, 4, 5, 6, 7, 8, 9, 10] [] (specOf [(5, fun v w' => v = .tuple #[.int .i64 r.1, .bool r.2])]) (fun w' => Ext w1 w') (stable_cons (fun v w w' h he => h) stable_nil) (stableC_ext _) (by kernel_rfl) (by kernel_rfl) (Keep.drew (Keep.refl _ _)) ?_
        refine pure_nil ?_
        iterate 5
          (try simp only [Act.put, List.setIfInBounds_toArray, List.set_cons_zero, List.set_cons_succ])
          refine growP_run rfl rfl rfl ?_
          apply Exists.intro
          refine ⟨fun w' hC hK => ?_, ?_⟩
          · have h1 := (hC.cell (lt_of_cell h1) id).trans h1
            have a0 := (hC.cell (lt_of_cell a0) id).trans a0
            have a1 := (hC.cell (lt_of_cell a1) id).trans a1
            have a2 := (hC.cell (lt_of_cell a2) id).trans a2
            have a3 := (hC.cell (lt_of_cell a3) id).trans a3
            have a4 := (hC.cell (lt_of_cell a4) id).trans a4
            have a5 := (hC.cell (lt_of_cell a5) id).trans a5
            have a6 := (hC.cell (lt_of_cell a6) id).trans a6
            have a7 := (hC.cell (lt_of_cell a7) id).trans a7
            have a8 := (hC.cell (lt_of_cell a8) id).trans a8
            have a9 := (hC.cell (lt_of_cell a9) id).trans a9
            have a10 := (hC.cell (lt_of_cell a10) id).trans a10
            have a11 := (hC.cell (lt_of_cell a11) id).trans a11
            go_simp
            rfl
        (try simp only [Act.put, List.setIfInBounds_toArray, List.set_cons_zero, List.set_cons_succ])
        refine growP_eff rfl rfl rfl (fun w' hC hK => ?_) (fun v5 hv5 => ?_)
        · unfold growAt
          go_simp
          refine grow_call ((HCALL.out w').mono ?_)
          rintro e w'' ⟨rfl, h2⟩
          exact ⟨_, rfl, h2, rfl⟩
        obtain ⟨_, _, rfl⟩ := hv5.head
        iterate 5
          (try simp only [Act.put, List.setIfInBounds_toArray, List.set_cons_zero, List.set_cons_succ])
          refine growP_run rfl rfl rfl ?_
          apply Exists.intro
          refine ⟨fun w' hC hK => ?_, ?_⟩
          · go_simp
            rfl
        refine growP_nil fun w2 hC hK => ?_
        have hC : Ext w1 w2 := hC
        have HC := hid hC
        have h3' : w2.frozen? ⟨g, o + 1, none⟩ = false := by rw [hC.frozen (lt_of_cell h1) id]; exact h3
        replace h1 := (hC.cell (lt_of_cell h1) id).trans h1
        clear hC hK
        change wpList _ _ _ [] _ _
        (try simp only [Act.put, List.setIfInBounds_toArray, List.set_cons_zero, List.set_cons_succ])
        refine NoPanic.normal ?_
        go_wp2
        go_ret
        have ht : thrL s y = r := by unfold thrL; rw [if_neg (by rw [HF.out]; simp), if_pos ⟨HF.out, hl⟩, HRR.out]
        exact ⟨by rw [ht]; rfl, w2, HE1.out.ext HC.out, .inl (by rw [ht])⟩
    · have h4X : ((f : Int) == 4) = false := by simp; omega
      go_wp2
      go_ret
      have ht : thrL s y = (s.i, true) := by unfold thrL; rw [if_neg (fun h => h5 (HF.out.symm.trans h.1)), if_neg (fun h => h4 (HF.out.symm.trans h.1))]
      exact ⟨by rw [ht]; rfl, w1, HE1.out, .inr ⟨rfl, by rw [ht]⟩⟩
end Go.Proofs.Ytioplgfopillnaa
