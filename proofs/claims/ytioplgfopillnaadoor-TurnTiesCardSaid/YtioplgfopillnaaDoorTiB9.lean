/- CloneStep, RefSameAny, PathBeg, PathSnd, LawKnown3, LawHeavy3, PathLaw, PathAtP, PathP: laid together. -/
import Derived.Test.YtioplgfopillnaaDoorTiB8
import Derived.Test.YtioplgfopillnaaDoorTiB6
import Derived.Test.YtioplgfopillnaaDoorTiB7
import Derived.Laws.Strings
import Derived.Test.YtioplgfopillnaaDoorTiB4
import Derived.Test.YtioplgfopillnaaDoorTiB2
import Derived.Laws.IdiomCopy
/- slices.Clone, by contract. -/
set_option linter.unusedSimpArgs false
set_option linter.unusedVariables false
namespace Go.Proofs.YtioplgfopillnaaDoor
open Go.RowKit
set_option linter.unusedVariables false

set_option maxHeartbeats 400000 in
theorem clone_steps (v : Value) (l : List _) (S : BS) (w : World) (hv : Sl ESt w S v l) (hl : l.length ≤ 1000000) (hSr : ∀ k, S k → k < w.heap.size) :
    Calls Tryd.prog 52 #[v] w fun e w' => ∃ v', e = .returned v' ∧ Own ESt w' w.heap.size TSTEP S v' l ∧ Ext w w' := by
  obtain ⟨A, c, rfl, h1, h2⟩ := hv.shape
  unfold maxLen at h2
  cases A with
  | none =>
    have hn : l = [] := by
      obtain ⟨cs, ⟨_, A', c', e, _, _, h3⟩, _⟩ := hv
      rcases Nat.eq_zero_or_pos l.length with h0 | h0
      · exact List.eq_nil_of_length_eq_zero h0
      · obtain ⟨b, off, e', _⟩ := h3 h0
        injection e with e1 _ _
        rw [e'] at e1
        cases e1
    subst hn
    have heq := Lib.run_eql_slice_nil (P := Tryd.prog) w 22 TSTEP none 0 c 0 0 Tryd.underlying22
    rw [List.length_nil]
    go_enter Tryd.func52, Tryd.ntmps52
    go_wp2
    go_ret
    exact ⟨_, rfl, Own.nil _ _ _ _, Keep.refl _ _⟩
  | some a =>
    have heq := Lib.run_eql_slice_nil (P := Tryd.prog) w 22 TSTEP (some a) l.length c 0 0 Tryd.underlying22
    have hown : Own ESt (w.alloc (.cells #[] TSTEP)) w.heap.size TSTEP (fun _ => False) (.slice (some ⟨w.heap.size, 0, none⟩) 0 0) [] :=
      .inr ⟨w.heap.size, 0, #[], rfl, Nat.le_refl _, Blk.new _ _ _, by simp, by simp [maxLen], by simp, rfl⟩
    have hsrc := hv.ext ESt.ok ((Keep.refl _ _).alloc (.cells #[] TSTEP))
    have HSr := hid hSr
    clear hSr
    go_enter Tryd.func52, Tryd.ntmps52
    go_wp2_with (at_builtin; refine wpList_own_append _ rfl (.tmp 5) (.tmp 6) ESt.ok ty_st rfl rfl rfl hown hsrc ?c1 ?c2 ?c3 ?c4 ?_)
    case c1 => intro g hg; have hg : w.heap.size = g := Option.some.inj hg; exact ⟨id, fun h => by have := HSr.out _ h; omega⟩
    case c2 => simp; omega
    case c3 => simp [maxLen]; omega
    case c4 => simp
    intro v' w' hown' hk hb
    have hE : Ext w w' := ((Keep.refl (fun _ => False) w).alloc _).trans hk (fun k hlt e => by have e : w.heap.size = k := Option.some.inj e; omega)
    have H := hid (hown'.more (S' := S) ESt.ok (fun k _ h => by first | exact h | exact Or.elim h False.elim id))
    clear hown' hb hsrc hown
    go_wp2
    go_ret
    exact ⟨_, rfl, H.out, hE⟩
end Go.Proofs.YtioplgfopillnaaDoor

/- The reference's Same at any two values. -/
set_option linter.unusedSimpArgs false
set_option linter.unusedVariables false
namespace Go.Proofs.YtioplgfopillnaaDoor
open Go.RowKit
set_option linter.unusedVariables false

end Go.Proofs.YtioplgfopillnaaDoor

/- path.Begins, by contract. -/
set_option linter.unusedSimpArgs false
set_option linter.unusedVariables false
namespace Go.Proofs.YtioplgfopillnaaDoor
open Go.RowKit
set_option linter.unusedVariables false

set_option maxHeartbeats 1600000 in
theorem equal_st (w : World) (S S2 : BS) (v u : Value) (p q : List St) (h : Sl ESt w S v p) (h2 : Sl ESt w S2 u q) :
    Calls Tryd.prog 54 #[v, u] w fun e w' => ((e = .returned (.bool true) ∧ p = q) ∨ (e = .returned (.bool false) ∧ p ≠ q)) ∧ Ext w w' := by
  obtain ⟨A, c, rfl, hlc, hcm⟩ := h.shape
  obtain ⟨A2, c2, rfl, hlc2, hcm2⟩ := h2.shape
  unfold maxLen at hcm hcm2
  have HA := hid h
  have HB := hid h2
  clear h h2
  by_cases hlen : p.length = q.length
  · have HLEN := hid hlen
    have hlenX : ((p.length : Int) != q.length) = false := by rw [hlen]; simp
    go_enter Tryd.func54, Tryd.ntmps54
    clear hlen
    go_wp2
    clear hlenX
    go_loopw [13] (fun i wr => ∃ j : Nat, j ≤ p.length ∧ i = .int .i64 j ∧ p.take j = q.take j ∧ Ext w wr) (fun i _ => p.length - (intOf i).toNat)
    case atStart => exact ⟨0, by omega, rfl, rfl, Keep.refl _ _⟩
    case round =>
      obtain ⟨j, hj, rfl, hpq, hE⟩ := hrel
      have HPQ := hid hpq
      clear hpq
      by_cases hlt : j < p.length
      · have hlt2 : j < q.length := by have := HLEN.out; omega
        obtain ⟨b1, o1, c0, rfl, _, _, hrd, hcell⟩ := (HA.out.ext ESt.ok hE).at_ ESt.ok hlt
        obtain ⟨b2, o2, c3, rfl, _, _, hrd2, hcell2⟩ := (HB.out.ext ESt.ok hE).at_ ESt.ok hlt2
        have HN := hid (And.intro (take_succ_get p j hlt) (take_succ_get q j hlt2))
        have HD := hid (fun (e : p = q) => (show p[j] = q[j] from by subst e; rfl))
        generalize p[j] = s at *
        generalize q[j] = t at *
        obtain rfl : c0 = [.bool s.list, .int .i64 s.i, .string s.key] := hrd
        obtain rfl : c3 = [.bool t.list, .int .i64 t.i, .string t.key] := hrd2
        have e0 := hcell 0 _ rfl
        have e1 := hcell 1 _ rfl
        have e2 := hcell 2 _ rfl
        have d0 := hcell2 0 _ rfl
        have d1 := hcell2 1 _ rfl
        have d2 := hcell2 2 _ rfl
        have hz : ESt.size = 3 := rfl
        simp only [hz, Nat.add_zero] at e0 e1 e2 d0 d1 d2
        have HE := hid hE
        clear hz hcell hcell2 hE
        by_cases g1 : s.list = t.list
        · by_cases g2 : s.i = t.i
          · by_cases g3 : s.key.toList = t.key.toList
            · have HST := hid (show s = t from by
                cases s; cases t
                simp only at g1 g2 g3
                rw [g1, g2, key_eq g3])
              go_wp2_with fail
              refine wp_region_grow (specOf []) (fun w' => Ext wr w') stable_nil (stableC_ext _) (by kernel_rfl) (by kernel_rfl) (Keep.drew (Keep.refl _ _)) ?_
              iterate 9
                (try simp only [Act.put, List.setIfInBounds_toArray, List.set_cons_zero, List.set_cons_succ])
                refine grow_run rfl rfl rfl ?_
                apply Exists.intro
                refine ⟨fun w' hC hK => ?_, ?_⟩
                · have e0 := (hC.cell (lt_of_cell e0) id).trans e0
                  have e1 := (hC.cell (lt_of_cell e1) id).trans e1
                  have e2 := (hC.cell (lt_of_cell e2) id).trans e2
                  have d0 := (hC.cell (lt_of_cell d0) id).trans d0
                  have d1 := (hC.cell (lt_of_cell d1) id).trans d1
                  have d2 := (hC.cell (lt_of_cell d2) id).trans d2
                  go_simp
                  rfl
              refine grow_nil fun w5 hC _ => ?_
              have HE5 := hid (HE.out.ext (show Ext wr w5 from hC))
              clear hC e0 e1 e2 d0 d1 d2
              go_wp2
              go_roundw
              case rel => exact ⟨j + 1, by omega, by go_num, by rw [HN.out.1, HN.out.2, HPQ.out, HST.out], HE5.out⟩
              case measure => simp [intOf]; omega
            · have HNE := hid (show s ≠ t from fun e => g3 (by rw [e]))
              go_wp2_with fail
              refine wp_region_grow (specOf []) (fun w' => Ext wr w') stable_nil (stableC_ext _) (by kernel_rfl) (by kernel_rfl) (Keep.drew (Keep.refl _ _)) ?_
              iterate 9
                (try simp only [Act.put, List.setIfInBounds_toArray, List.set_cons_zero, List.set_cons_succ])
                refine grow_run rfl rfl rfl ?_
                apply Exists.intro
                refine ⟨fun w' hC hK => ?_, ?_⟩
                · have e0 := (hC.cell (lt_of_cell e0) id).trans e0
                  have e1 := (hC.cell (lt_of_cell e1) id).trans e1
                  have e2 := (hC.cell (lt_of_cell e2) id).trans e2
                  have d0 := (hC.cell (lt_of_cell d0) id).trans d0
                  have d1 := (hC.cell (lt_of_cell d1) id).trans d1
                  have d2 := (hC.cell (lt_of_cell d2) id).trans d2
                  go_simp
                  rfl
              refine grow_nil fun w5 hC _ => ?_
              have HE5 := hid (HE.out.ext (show Ext wr w5 from hC))
              clear hC e0 e1 e2 d0 d1 d2
              go_wp2
              go_ret
              exact ⟨.inr ⟨rfl, fun e => HNE.out (HD.out e)⟩, HE5.out⟩
          · have HNE := hid (show s ≠ t from fun e => g2 (by rw [e]))
            go_wp2_with fail
            refine wp_region_grow (specOf []) (fun w' => Ext wr w') stable_nil (stableC_ext _) (by kernel_rfl) (by kernel_rfl) (Keep.drew (Keep.refl _ _)) ?_
            iterate 9
              (try simp only [Act.put, List.setIfInBounds_toArray, List.set_cons_zero, List.set_cons_succ])
              refine grow_run rfl rfl rfl ?_
              apply Exists.intro
              refine ⟨fun w' hC hK => ?_, ?_⟩
              · have e0 := (hC.cell (lt_of_cell e0) id).trans e0
                have e1 := (hC.cell (lt_of_cell e1) id).trans e1
                have e2 := (hC.cell (lt_of_cell e2) id).trans e2
                have d0 := (hC.cell (lt_of_cell d0) id).trans d0
                have d1 := (hC.cell (lt_of_cell d1) id).trans d1
                have d2 := (hC.cell (lt_of_cell d2) id).trans d2
                go_simp
                rfl
            refine grow_nil fun w5 hC _ => ?_
            have HE5 := hid (HE.out.ext (show Ext wr w5 from hC))
            clear hC e0 e1 e2 d0 d1 d2
            go_wp2
            go_ret
            exact ⟨.inr ⟨rfl, fun e => HNE.out (HD.out e)⟩, HE5.out⟩
        · have HNE := hid (show s ≠ t from fun e => g1 (by rw [e]))
          go_wp2_with fail
          refine wp_region_grow (specOf []) (fun w' => Ext wr w') stable_nil (stableC_ext _) (by kernel_rfl) (by kernel_rfl) (Keep.drew (Keep.refl _ _)) ?_
          iterate 9
            (try simp only [Act.put, List.setIfInBounds_toArray, List.set_cons_zero, List.set_cons_succ])
            refine grow_run rfl rfl rfl ?_
            apply Exists.intro
            refine ⟨fun w' hC hK => ?_, ?_⟩
            · have e0 := (hC.cell (lt_of_cell e0) id).trans e0
              have e1 := (hC.cell (lt_of_cell e1) id).trans e1
              have e2 := (hC.cell (lt_of_cell e2) id).trans e2
              have d0 := (hC.cell (lt_of_cell d0) id).trans d0
              have d1 := (hC.cell (lt_of_cell d1) id).trans d1
              have d2 := (hC.cell (lt_of_cell d2) id).trans d2
              go_simp
              rfl
          refine grow_nil fun w5 hC _ => ?_
          have HE5 := hid (HE.out.ext (show Ext wr w5 from hC))
          clear hC e0 e1 e2 d0 d1 d2
          go_wp2
          go_ret
          exact ⟨.inr ⟨rfl, fun e => HNE.out (HD.out e)⟩, HE5.out⟩
      · obtain rfl : j = p.length := by omega
        have HE := hid hE
        clear hE
        go_wp2
        go_ret
        refine ⟨.inl ⟨rfl, ?_⟩, HE.out⟩
        have := HPQ.out
        rw [List.take_length, HLEN.out, List.take_length] at this
        exact this
  · have hlenX : ((p.length : Int) != q.length) = true := by simp; omega
    have HNE := hid (show p ≠ q from fun e => hlen (by rw [e]))
    clear hlen
    go_enter Tryd.func54, Tryd.ntmps54
    go_wp2
    go_ret
    exact ⟨.inr ⟨rfl, HNE.out⟩, Keep.refl _ _⟩

/-- Begins. -/
def BegIs (p q : List St) (w : World) (e : Ending) (w' : World) : Prop := ((e = .returned (.bool true) ∧ q <+: p) ∨ (e = .returned (.bool false) ∧ ¬ q <+: p)) ∧ Ext w w'
set_option maxHeartbeats 1600000 in
theorem begins_ok (w : World) (S S2 : BS) (v u : Value) (p q : List St) (h : Sl ESt w S v p) (h2 : Sl ESt w S2 u q) :
    Calls Tryd.prog 26 #[v, u] w (BegIs p q w) := by
  obtain ⟨A, c, rfl, hlc, hcm⟩ := h.shape
  obtain ⟨A2, c2, rfl, hlc2, hcm2⟩ := h2.shape
  unfold maxLen at hcm hcm2
  by_cases hlen : q.length ≤ p.length
  · obtain ⟨r1, f1⟩ := front_fact (P := Tryd.prog) ESt.ok ty_st h (b := (q.length : Int)) rfl hlen
    have hEQ := equal_st w S S2 _ _ (p.take q.length) q f1 h2
    have HEQ := hid hEQ
    have hlX : (q.length : Int) ≤ p.length := by omega
    have HP := hid (show p.take q.length = q ↔ q <+: p from ⟨fun e => by rw [← e]; exact List.take_prefix _ _, fun h => (List.prefix_iff_eq_take.1 h).symm⟩)
    clear h h2 hEQ f1 hlen
    go_enter Tryd.func26, Tryd.ntmps26
    go_wp2_with fail
    refine HEQ.out.mono ?_
    rintro e w2 ⟨⟨rfl, he⟩ | ⟨rfl, he⟩, hE⟩
    · have HR := hid (show BegIs p q w (.returned (.bool true)) w2 from ⟨.inl ⟨rfl, HP.out.1 he⟩, hE⟩)
      clear he hE
      go_wp2
      go_ret
      exact HR.out
    · have HR := hid (show BegIs p q w (.returned (.bool false)) w2 from ⟨.inr ⟨rfl, fun h => he (HP.out.2 h)⟩, hE⟩)
      clear he hE
      go_wp2
      go_ret
      exact HR.out
  · have hlX : ¬ (q.length : Int) ≤ p.length := by omega
    have HR := hid (show BegIs p q w (.returned (.bool false)) w from ⟨.inr ⟨rfl, fun h => hlen h.length_le⟩, Keep.refl _ _⟩)
    clear h h2 hlen
    go_enter Tryd.func26, Tryd.ntmps26
    go_wp2
    go_ret
    exact HR.out
end Go.Proofs.YtioplgfopillnaaDoor

/- path.Sound over a contract of its closure. -/
set_option linter.unusedSimpArgs false
set_option linter.unusedVariables false
namespace Go.Proofs.YtioplgfopillnaaDoor
open Go.RowKit
set_option linter.unusedVariables false

end Go.Proofs.YtioplgfopillnaaDoor

/- The law's example of chapter 03. -/
set_option linter.unusedSimpArgs false
set_option linter.unusedVariables false
namespace Go.Proofs.YtioplgfopillnaaDoor
open Go.RowKit
set_option linter.unusedVariables false

abbrev cA : List Value := [.int .u8 2, .int .i64 1, .string ⟨#[]⟩, .slice none 0 0, .slice none 0 0]
end Go.Proofs.YtioplgfopillnaaDoor

/- The law's 'heavy' of chapter 03. -/
set_option linter.unusedSimpArgs false
set_option linter.unusedVariables false
namespace Go.Proofs.YtioplgfopillnaaDoor
open Go.RowKit
set_option linter.unusedVariables false

end Go.Proofs.YtioplgfopillnaaDoor

/- The plain law of chapter 03: what is put, and got. No program. -/
set_option linter.unusedSimpArgs false
set_option linter.unusedVariables false
namespace Go.Proofs.YtioplgfopillnaaDoor
open Go.RowKit

theorem put_kind (v : V) (loc : Loc) (x : V) : (v.put loc x).kind = v.kind := by cases v; cases loc <;> rfl
theorem put_n (v : V) (loc : Loc) (x : V) : (v.put loc x).n = v.n := by cases v; cases loc <;> rfl
theorem put_s (v : V) (loc : Loc) (x : V) : (v.put loc x).s = v.s := by cases v; cases loc <;> rfl
theorem put_l (v : V) (i : Nat) (x : V) : (v.put (.l i) x).l = v.l.set i x ∧ (v.put (.l i) x).o = v.o := by cases v; exact ⟨rfl, rfl⟩
theorem put_o (v : V) (j : Nat) (x : V) : (v.put (.o j) x).l = v.l ∧ (v.put (.o j) x).o = (match v.o[j]? with | some f => v.o.set j (.mk f.key x) | none => v.o) := by cases v; exact ⟨rfl, rfl⟩
end Go.Proofs.YtioplgfopillnaaDoor

/- path.at with a function of the caller's, by contract. -/
set_option linter.unusedSimpArgs false
set_option linter.unusedVariables false
namespace Go.Proofs.YtioplgfopillnaaDoor
open Go.RowKit
set_option linter.unusedVariables false

end Go.Proofs.YtioplgfopillnaaDoor

/- path.Put, by contract. -/
set_option linter.unusedSimpArgs false
set_option linter.unusedVariables false
namespace Go.Proofs.YtioplgfopillnaaDoor
open Go.RowKit
set_option linter.unusedVariables false

/-- Where Put stands. -/
def PutI (w0 : World) (xb rb : Nat) (u3 u4 : Value) (v x : V) (p : List St) (w' : World) (j b off : Nat) (y : V) : Prop :=
  ∃ (f : V → V) (a c : Nat), getV v (p.take j) = some y ∧ (∀ z, putV v (p.take j) z = some (f z)) ∧ PtrT w' b off y a c ∧ Hole w' (fun q => w0.heap.size ≤ q) rb 0 b off f a c ∧ c ≤ w'.heap.size ∧ b < w'.heap.size ∧ w0.heap.size ≤ a ∧ w0.heap.size ≤ b ∧ b ≠ xb ∧ Ext w0 w' ∧
    Blk w' xb TVAL #[U8 x.kind, .int .i64 x.n, .string x.s, u3, u4] ∧ xb < a ∧ b ≠ xb + 1 ∧ xb + 1 < a ∧ Blk w' (xb + 1) TVAL #[.int .u8 0, .int .i64 0, .string ⟨#[]⟩, .slice none 0 0, .slice none 0 0]
theorem PutI.ext {w0 w' w'' : World} {xb rb : Nat} {u3 u4 : Value} {v x y : V} {p : List St} {j b off : Nat} (h : PutI w0 xb rb u3 u4 v x p w' j b off y) (he : Ext w' w'') : PutI w0 xb rb u3 u4 v x p w'' j b off y := by
  obtain ⟨f, a, c, h1, h2, h3, h4, h5, h6, h7, h8, h9, h10, h11, h12, h13, h14, h15⟩ := h
  exact ⟨f, a, c, h1, h2, h3.ext he, h4.ext he h5 h6, Nat.le_trans h5 he.size, Nat.lt_of_lt_of_le h6 he.size, h7, h8, h9, h10.ext he, h11.keep he id, h12, h13, h14, h15.keep he id⟩
theorem PutI.step {w0 w' : World} {xb rb : Nat} {u3 u4 : Value} {v x y : V} {p : List St} {j b off : Nat} (h : PutI w0 xb rb u3 u4 v x p w' j b off y) (hj : j < p.length) :
    ∃ lv ov S1 S2, At5 w' b off [U8 y.kind, .int .i64 y.n, .string y.s, lv, ov] ∧ Sl EVal w' S1 lv y.l ∧ Sl EField w' S2 ov y.o ∧ NextI (PutI w0 xb rb u3 u4 v x p) w' j lv ov y p[j] := by
  obtain ⟨f, a, c, h1, h2, h3, h4, h5, h6, h7, h8, h9, h10, h11, h12, h13, h14, h15⟩ := h
  have h3' := h3
  obtain ⟨cs, g1, g2, g3, g4⟩ := h3'
  obtain ⟨lv, ov, rfl, hl, ho⟩ := rdV_iff.1 (TV_rd (S := fun q => a ≤ q ∧ q < c) _ _ _ _ (fun q h1 h2 => ⟨h1, h2⟩) g2)
  refine ⟨lv, ov, _, _, g1, hl, ho, ?_⟩
  have hsn := getV_snoc (p.take j) v p[j]
  have hpn := fun z => putV_append (p.take j) [p[j]] v z
  rw [List.take_append_getElem hj, h1, Option.bind_some] at hsn
  rw [List.take_append_getElem hj, h1] at hpn
  simp only [Option.bind_some] at hpn
  unfold NextI
  cases hst : stepV y p[j] with
  | none => trivial
  | some loc =>
    rw [hst, Option.bind_some] at hsn
    obtain ⟨z, hz⟩ := stepV_child hst
    rw [hz] at hsn
    have hpn' : ∀ t, putV v (p.take (j + 1)) t = some (f (y.put loc t)) := fun t => by rw [hpn t, putV_one hst, Option.bind_some, h2]
    have hSx : ∀ q, a ≤ q → q < c → w0.heap.size ≤ q := fun q hq _ => by omega
    cases y with
    | mk k n s l o =>
      cases loc with
      | l i =>
        have hi := (List.getElem?_eq_some_iff.1 (show l[i]? = some z from hz)).1
        obtain ⟨g, cap, ai, bi, lv', ov', e1, e2, e3, e4, e5, e8, e6⟩ := h4.stepL h3 hSx h5 i hi
        rw [(List.getElem?_eq_some_iff.1 (show l[i]? = some z from hz)).2] at e3
        have e7 : lv' = lv := by
          have q1 := e1 3 lv' rfl
          have q2 := g1 3 lv rfl
          exact Option.some.inj (q1.symm.trans q2)
        subst e7
        obtain ⟨cs3, k1, k2, k3, k4⟩ := e3
        have k5 := TV_le _ _ _ _ k2
        obtain ⟨u, hu⟩ : ∃ u, cs3[0]? = some u := ⟨cs3[0]'(by omega), by simp⟩
        have hgl : g < w'.heap.size := lt_of_cell (k1 0 u hu)
        exact ⟨g, 0, cap, z, e2, _, ai, bi, hsn, hpn', ⟨cs3, k1, k2, k3, k4⟩, e6, by omega, hgl, by omega, by omega, by omega, h10, h11, by omega, by omega, by omega, h15⟩
      | o i =>
        cases hf : o[i]? with
        | none => rw [child_o] at hz; simp only [V.o] at hz; rw [hf] at hz; cases hz
        | some t =>
          rw [child_o] at hz; simp only [V.o] at hz; rw [hf] at hz
          obtain rfl : t.v = z := by simpa using hz
          have hi := (List.getElem?_eq_some_iff.1 hf).1
          obtain ⟨g, cap, ai, bi, lv', ov', e1, e2, e3, e4, e5, e8, e6⟩ := h4.stepO h3 hSx h5 i hi
          rw [(List.getElem?_eq_some_iff.1 hf).2] at e3
          have e7 : ov' = ov := by
            have q1 := e1 4 ov' rfl
            have q2 := g1 4 ov rfl
            exact Option.some.inj (q1.symm.trans q2)
          subst e7
          obtain ⟨cs3, k1, k2, k3, k4⟩ := e3
          have k5 := TV_le _ _ _ _ k2
          obtain ⟨u, hu⟩ : ∃ u, cs3[0]? = some u := ⟨cs3[0]'(by omega), by simp⟩
          have hgl : g < w'.heap.size := lt_of_cell (k1 0 u hu)
          exact ⟨g, 0, cap, t.v, e2, _, ai, bi, hsn, hpn', ⟨cs3, k1, k2, k3, k4⟩, e6, by omega, hgl, by omega, by omega, by omega, h10, h11, by omega, by omega, by omega, h15⟩

end Go.Proofs.YtioplgfopillnaaDoor
