/- TurnV, VStr: laid together. -/
import Derived.Test.YtioplgfopillnaaDoorTtB24
import Derived.Test.YtioplgfopillnaaDoorTtB6
/- The reference's Same (chapter 07) at like lists of components; what One answers has small numbers. -/
set_option linter.unusedSimpArgs false
set_option linter.unusedVariables false
namespace Go.Proofs.YtioplgfopillnaaDoor
open Go.RowKit
set_option linter.unusedVariables false

set_option maxRecDepth 20000 in
set_option maxHeartbeats 6400000 in
theorem rsame7_ok (w : World) (S S2 : BS) (u v : Value) (l : List Cp) (h1 : Sl ECp w S u l) (h2 : Sl ECp w S2 v l) :
    Calls Tryd.prog 12 #[u, v] w fun e w' => e = .returned (.bool true) ∧ Ext w w' := by
  obtain ⟨A, c, rfl, hlc, hcm⟩ := h1.shape
  obtain ⟨B, d, rfl, hld, hdm⟩ := h2.shape
  unfold maxLen at hcm hdm
  obtain ⟨n, hn⟩ : ∃ n, l.length = n := ⟨_, rfl⟩
  have HN := hid hn
  rw [hn] at h1 h2 hlc hld ⊢
  have H1 := hid h1
  have H2 := hid h2
  have hnn : ((n : Int) == (n : Int)) = true := by simp
  clear h1 h2 hn
  go_enter Tryd.func12, Tryd.ntmps12
  go_wp2_with fail
  go_loopw [5] (fun i wr => ∃ j : Nat, j ≤ n ∧ i = .int .i64 j ∧ Ext w wr) (fun i _ => n - (intOf i).toNat)
  case atStart => exact ⟨0, by omega, rfl, Keep.refl _ _⟩
  case round =>
    obtain ⟨j, hj, rfl, hE⟩ := hrel
    have HE := hid hE
    by_cases hlt : j < n
    · have hX : (j : Int) < n := by omega
      have hj' : j < l.length := by rw [HN.out]; exact hlt
      have hS1 := H1.out.ext ECp.ok hE
      have hS2 := H2.out.ext ECp.ok hE
      obtain ⟨b1, o1, c1, rfl, _, _, ⟨pv, lv, ov, rfl, x1, x2, x3⟩, hc1⟩ := hS1.at_ ECp.ok hj'
      obtain ⟨b2, o2, c2, rfl, _, _, ⟨qv, mv, nv, rfl, y1, y2, y3⟩, hc2⟩ := hS2.at_ ECp.ok hj'
      generalize l[j] = x at *
      obtain ⟨Ap, cp, rfl, _⟩ := x1.shape
      obtain ⟨Al, cl, rfl, _⟩ := x2.shape
      obtain ⟨Ao, co, rfl, _⟩ := x3.shape
      obtain ⟨Bp, dp, rfl, _⟩ := y1.shape
      obtain ⟨Bl, dl, rfl, _⟩ := y2.shape
      obtain ⟨Bo, do_, rfl, _⟩ := y3.shape
      have HCX := hid (show CAt wr S (.agg (cpCells x (.slice Ap x.path.length cp) (.slice Al x.v.l.length cl) (.slice Ao x.v.o.length co))) x from ⟨_, _, _, rfl, x1, x2, x3⟩)
      have HCY := hid (show CAt wr S2 (.agg (cpCells x (.slice Bp x.path.length dp) (.slice Bl x.v.l.length dl) (.slice Bo x.v.o.length do_))) x from ⟨_, _, _, rfl, y1, y2, y3⟩)
      have e12 : ECp.size = 12 := rfl
      have g0 := hc1 0 _ rfl
      have k0 := hc2 0 _ rfl
      have g1 := hc1 1 _ rfl
      have k1 := hc2 1 _ rfl
      have g2 := hc1 2 _ rfl
      have k2 := hc2 2 _ rfl
      have g3 := hc1 3 _ rfl
      have k3 := hc2 3 _ rfl
      have g4 := hc1 4 _ rfl
      have k4 := hc2 4 _ rfl
      have g5 := hc1 5 _ rfl
      have k5 := hc2 5 _ rfl
      have g6 := hc1 6 _ rfl
      have k6 := hc2 6 _ rfl
      have g7 := hc1 7 _ rfl
      have k7 := hc2 7 _ rfl
      have g8 := hc1 8 _ rfl
      have k8 := hc2 8 _ rfl
      have g9 := hc1 9 _ rfl
      have k9 := hc2 9 _ rfl
      have g10 := hc1 10 _ rfl
      have k10 := hc2 10 _ rfl
      have g11 := hc1 11 _ rfl
      have k11 := hc2 11 _ rfl
      simp only [e12, Nat.add_zero] at g0 g1 g2 g3 g4 g5 g6 g7 g8 g9 g10 g11 k0 k1 k2 k3 k4 k5 k6 k7 k8 k9 k10 k11
      clear hc1 hc2 x1 x2 x3 y1 y2 y3 hS1 hS2 hE
      go_wp2_with fail
      refine wp_region_parts [] [0, 1, 2, 3, 4, 5, 6, 7, 8, 9] [] (specOf [(8, fun v w' => v = .bool true)]) (fun w' => Ext wr w') (stable_cons (fun v w w' h he => h) stable_nil) (stableC_ext _) (by kernel_rfl) (by kernel_rfl) (Keep.drew (Keep.refl _ _)) ?_
      refine pure_nil ?_
      iterate 8
        (try simp only [Act.put, List.setIfInBounds_toArray, List.set_cons_zero, List.set_cons_succ])
        refine growP_run rfl rfl rfl ?_
        apply Exists.intro
        refine ⟨fun w' hC hK => ?_, ?_⟩
        · have g0 := (hC.cell (lt_of_cell g0) id).trans g0
          have g1 := (hC.cell (lt_of_cell g1) id).trans g1
          have g2 := (hC.cell (lt_of_cell g2) id).trans g2
          have g3 := (hC.cell (lt_of_cell g3) id).trans g3
          have g4 := (hC.cell (lt_of_cell g4) id).trans g4
          have g5 := (hC.cell (lt_of_cell g5) id).trans g5
          have g6 := (hC.cell (lt_of_cell g6) id).trans g6
          have g7 := (hC.cell (lt_of_cell g7) id).trans g7
          have g8 := (hC.cell (lt_of_cell g8) id).trans g8
          have g9 := (hC.cell (lt_of_cell g9) id).trans g9
          have g10 := (hC.cell (lt_of_cell g10) id).trans g10
          have g11 := (hC.cell (lt_of_cell g11) id).trans g11
          have k0 := (hC.cell (lt_of_cell k0) id).trans k0
          have k1 := (hC.cell (lt_of_cell k1) id).trans k1
          have k2 := (hC.cell (lt_of_cell k2) id).trans k2
          have k3 := (hC.cell (lt_of_cell k3) id).trans k3
          have k4 := (hC.cell (lt_of_cell k4) id).trans k4
          have k5 := (hC.cell (lt_of_cell k5) id).trans k5
          have k6 := (hC.cell (lt_of_cell k6) id).trans k6
          have k7 := (hC.cell (lt_of_cell k7) id).trans k7
          have k8 := (hC.cell (lt_of_cell k8) id).trans k8
          have k9 := (hC.cell (lt_of_cell k9) id).trans k9
          have k10 := (hC.cell (lt_of_cell k10) id).trans k10
          have k11 := (hC.cell (lt_of_cell k11) id).trans k11
          go_simp
          rfl
      (try simp only [Act.put, List.setIfInBounds_toArray, List.set_cons_zero, List.set_cons_succ])
      refine growP_eff rfl rfl rfl (fun w' hC hK => ?_) (fun v8 hv8 => ?_)
      · unfold growAt
        go_simp
        refine grow_call ((rsame06_yes w' _ _ _ _ x (HCX.out.ext hC) (HCY.out.ext hC)).mono ?_)
        rintro e w'' ⟨rfl, h2⟩
        exact ⟨_, rfl, h2, rfl⟩
      obtain ⟨_, _, rfl⟩ := hv8.head
      iterate 1
        (try simp only [Act.put, List.setIfInBounds_toArray, List.set_cons_zero, List.set_cons_succ])
        refine growP_run rfl rfl rfl ?_
        apply Exists.intro
        refine ⟨fun w' hC hK => ?_, ?_⟩
        · go_simp
          rfl
      refine growP_nil fun w2 hC hK => ?_
      have HC := hid (show Ext wr w2 from hC)
      clear hC hK
      change wpList _ _ _ [] _ _
      (try simp only [Act.put, List.setIfInBounds_toArray, List.set_cons_zero, List.set_cons_succ])
      refine NoPanic.normal ?_
      go_wp2
      exact ⟨⟨j + 1, by omega, by go_num, HE.out.ext HC.out⟩, by simp [intOf]; omega⟩
    · obtain rfl : j = n := by omega
      have hX : ¬ (j : Int) < j := by omega
      go_wp2
      go_ret
      exact ⟨rfl, HE.out⟩
end Go.Proofs.YtioplgfopillnaaDoor

/- Values whose texts are bounded; weights and depths. No program. -/
set_option linter.unusedSimpArgs false
set_option linter.unusedVariables false
namespace Go.Proofs.YtioplgfopillnaaDoor
open Go.RowKit

mutual
/-- No text in it is longer. -/
def VStr (R : Nat) : V → Prop
  | .mk _ _ s l o => s.size ≤ R ∧ VStrs R l ∧ FStrs R o
def VStrs (R : Nat) : List V → Prop
  | [] => True
  | v :: vs => VStr R v ∧ VStrs R vs
def FStr (R : Nat) : F → Prop
  | .mk k v => k.size ≤ R ∧ VStr R v
def FStrs (R : Nat) : List F → Prop
  | [] => True
  | f :: fs => FStr R f ∧ FStrs R fs
end
theorem VStr_iff (R : Nat) (v : V) : VStr R v ↔ v.s.size ≤ R ∧ VStrs R v.l ∧ FStrs R v.o := by cases v; rw [VStr]; exact Iff.rfl
theorem FStr_iff (R : Nat) (f : F) : FStr R f ↔ f.key.size ≤ R ∧ VStr R f.v := by cases f; rw [FStr]; exact Iff.rfl
theorem VStrs_iff (R : Nat) : ∀ (l : List V), VStrs R l ↔ ∀ x ∈ l, VStr R x
  | [] => by simp [VStrs]
  | v :: vs => by rw [VStrs, VStrs_iff R vs]; simp
theorem FStrs_iff (R : Nat) : ∀ (l : List F), FStrs R l ↔ ∀ x ∈ l, FStr R x
  | [] => by simp [FStrs]
  | v :: vs => by rw [FStrs, FStrs_iff R vs]; simp
theorem VStr.s {R : Nat} {x : V} (h : VStr R x) : x.s.size ≤ R := ((VStr_iff R x).1 h).1
theorem VStr.l {R : Nat} {x y : V} (h : VStr R x) (hy : y ∈ x.l) : VStr R y := (VStrs_iff R _).1 ((VStr_iff R x).1 h).2.1 y hy
theorem VStr.o {R : Nat} {x : V} {f : F} (h : VStr R x) (hy : f ∈ x.o) : f.key.size ≤ R ∧ VStr R f.v := (FStr_iff R f).1 ((FStrs_iff R _).1 ((VStr_iff R x).1 h).2.2 f hy)
/-- What the pieces bound. -/
def StrIs (ts : List Tk) (x : V) : Prop := ∀ R, (∀ t ∈ ts, t.s.size ≤ R) → VStr R x
def StrV (ts : List Tk) (xs : List V) : Prop := ∀ x ∈ xs, StrIs ts x
def StrF (ts : List Tk) (xs : List F) : Prop := ∀ f ∈ xs, (∀ R, (∀ t ∈ ts, t.s.size ≤ R) → f.key.size ≤ R) ∧ StrIs ts f.v
theorem StrV.nil (ts : List Tk) : StrV ts [] := fun x h => by simp at h
theorem StrF.nil (ts : List Tk) : StrF ts [] := fun x h => by simp at h
theorem StrIs.sub {ts ts' : List Tk} {x : V} (h : StrIs ts x) (hs : ∀ t ∈ ts, t ∈ ts') : StrIs ts' x := fun R hR => h R fun t ht => hR t (hs t ht)
theorem StrIs.key {ts : List Tk} {x : V} (h : StrIs ts x) : ∀ R, (∀ t ∈ ts, t.s.size ≤ R) → x.s.size ≤ R := fun R hR => (h R hR).s
theorem StrV.snoc {ts : List Tk} {xs : List V} {x : V} (h : StrV ts xs) (hx : StrIs ts x) : StrV ts (xs ++ [x]) := fun y hy => by
  rcases List.mem_append.1 hy with hy | hy
  · exact h y hy
  · rw [List.mem_singleton.1 hy]; exact hx
theorem StrF.snoc {ts : List Tk} {xs : List F} {x : V} (h : StrF ts xs) (hx : StrIs ts x) : StrF ts (xs ++ [F.mk x.s x]) := fun y hy => by
  rcases List.mem_append.1 hy with hy | hy
  · exact h y hy
  · rw [List.mem_singleton.1 hy]; exact ⟨hx.key, hx⟩
theorem StrIs.mkV {ts : List Tk} {k : UInt8} {n : Int} {s : ByteArray} {xs : List V} (hs : ∀ R, (∀ t ∈ ts, t.s.size ≤ R) → s.size ≤ R) (h : StrV ts xs) : StrIs ts (.mk k n s xs []) := fun R hR => by
  rw [VStr]; exact ⟨hs R hR, (VStrs_iff R _).2 fun x hx => h x hx R hR, by rw [FStrs]; trivial⟩
theorem StrIs.mkF {ts : List Tk} {k : UInt8} {n : Int} {s : ByteArray} {xs : List F} (hs : ∀ R, (∀ t ∈ ts, t.s.size ≤ R) → s.size ≤ R) (h : StrF ts xs) : StrIs ts (.mk k n s [] xs) := fun R hR => by
  rw [VStr]; exact ⟨hs R hR, by rw [VStrs]; trivial, (FStrs_iff R _).2 fun x hx => (FStr_iff R x).2 ⟨(h x hx).1 R hR, (h x hx).2 R hR⟩⟩

/-! ### Weight and depth -/
mutual
def V.weight : V → Nat
  | .mk _ _ s l o => 1 + s.size + (V.weights l + F.weights o)
def V.weights : List V → Nat
  | [] => 0
  | v :: vs => v.weight + V.weights vs
def F.weight : F → Nat
  | .mk k v => k.size + v.weight
def F.weights : List F → Nat
  | [] => 0
  | f :: fs => f.weight + F.weights fs
end
end Go.Proofs.YtioplgfopillnaaDoor
