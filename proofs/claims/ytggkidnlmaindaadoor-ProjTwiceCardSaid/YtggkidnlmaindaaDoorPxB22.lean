/- TurnF, TurnG, TurnH, SeqA, TurnI, TurnJ: laid together. -/
import Derived.Test.YtggkidnlmaindaaDoorPxB21
import Derived.Test.YtggkidnlmaindaaDoorPxB2
import Derived.Test.YtggkidnlmaindaaDoorPxB4
import Derived.Test.YtggkidnlmaindaaDoorPxB11
set_option linter.unusedSimpArgs false
set_option linter.unusedVariables false
set_option maxHeartbeats 25600000
set_option maxRecDepth 20000
namespace Go.Proofs.YtggkidnlmaindaaDoor
open Go.RowKit
theorem BegIs.yes {p q : List St} {w w' : World} {e : Ending} (h : BegIs p q w e w') (hb : q <+: p) : e = .returned (.bool true) ∧ Ext w w' := by
 obtain ⟨⟨h1, _⟩ | ⟨_, h1⟩, h2⟩ := h
 ·exact ⟨h1, h2⟩
 ·exact absurd hb h1
theorem BegIs.no {p q : List St} {w w' : World} {e : Ending} (h : BegIs p q w e w') (hb : ¬ q <+: p) : e = .returned (.bool false) ∧ Ext w w' := by
 obtain ⟨⟨_, h1⟩ | ⟨h1, _⟩, h2⟩ := h
 ·exact absurd h1 hb
 ·exact ⟨h1, h2⟩
theorem BegIs.is {p q : List St} {w w' : World} {e : Ending} (h : BegIs p q w e w') (b : Bool) (hb : b = true ↔ q <+: p) : e = .returned (.bool b) ∧ Ext w w' := by
 cases b with
 | true => exact h.yes (hb.1 rfl)
 | false => exact h.no fun hc => by simpa using hb.2 hc
theorem rbegins_ok (w : World) (S S2 : BS) (v u : Value) (p q : List St) (h : Sl ESt w S v p) (h2 : Sl ESt w S2 u q) :
  Calls Tryd.prog 94 #[v, u] w (BegIs p q w) := by
 obtain ⟨A, c, rfl, hlc, hcm⟩ := h.shape
 obtain ⟨A2, c2, rfl, hlc2, hcm2⟩ := h2.shape
 unfold maxLen at hcm hcm2
 have HA := hid h
 have HB := hid h2
 clear h h2
 by_cases hlen : p.length < q.length
 ·have hlenX : (p.length : Int) < q.length := by omega
  have HNE := hid (show ¬ q <+: p from fun e => by have := e.length_le; omega)
  clear hlen
  go_enter Tryd.func94, Tryd.ntmps94
  go_wp2
  go_ret
  exact ⟨.inr ⟨rfl, HNE.out⟩, Keep.refl _ _⟩
 ·have hlenX : ¬ (p.length : Int) < q.length := by omega
  have HLEN := hid (show q.length ≤ p.length by omega)
  clear hlen
  go_enter Tryd.func94, Tryd.ntmps94
  go_wp2
  clear hlenX
  go_loopw [5] (fun i wr => ∃ j : Nat, j ≤ q.length ∧ i = .int .i64 j ∧ p.take j = q.take j ∧ Ext w wr) (fun i _ => q.length - (intOf i).toNat)
  case atStart => exact ⟨0, by omega, rfl, rfl, Keep.refl _ _⟩
  case round =>
   obtain ⟨j, hj, rfl, hpq, hE⟩ := hrel
   have HPQ := hid hpq
   clear hpq
   by_cases hlt2 : j < q.length
   ·have hlt : j < p.length := by have := HLEN.out; omega
    obtain ⟨b1, o1, c0, rfl, _, _, hrd, hcell⟩ := (HA.out.ext ESt.ok hE).at_ ESt.ok hlt
    obtain ⟨b2, o2, c3, rfl, _, _, hrd2, hcell2⟩ := (HB.out.ext ESt.ok hE).at_ ESt.ok hlt2
    have HN := hid (And.intro (take_succ_get p j hlt) (take_succ_get q j hlt2))
    have HD := hid (show q <+: p → p[j] = q[j] from fun e => by
     obtain ⟨t, ht⟩ := e
     subst ht
     rw [List.getElem_append_left hlt2])
    generalize p[j] = s at *
    generalize q[j] = t at *
    obtain rfl : c0 = [.bool s.list, .int .i64 s.i, .string s.key] := hrd
    obtain rfl : c3 = [.bool t.list, .int .i64 t.i, .string t.key] := hrd2
    have e0 := hcell 0 _ rfl
    have e1 := hcell 1 _ rfl
    have e2 := hcell 2 _ rfl
    have d0 := hcell2 0 _ rfl
    have d1 := hcell2 1 _ rfl
    have d2 := hcell2 2 _ rfl
    have hz : ESt.size = 3 := rfl
    simp only [hz, Nat.add_zero] at e0 e1 e2 d0 d1 d2
    have HE := hid hE
    clear hz hcell hcell2 hE
    by_cases g1 : s.list = t.list
    ·by_cases g2 : s.i = t.i
     ·by_cases g3 : s.key.toList = t.key.toList
      ·have HST := hid (show s = t from by
        cases s; cases t
        simp only at g1 g2 g3
        rw [g1, g2, key_eq g3])
       go_wp2_with fail
       refine wp_region_grow (specOf []) (fun w' => Ext wr w') stable_nil (stableC_ext _) (by kernel_rfl) (by kernel_rfl) (Keep.drew (Keep.refl _ _)) ?_
       iterate 9
        (try simp only [Act.put, sqa, sqb, sqc])
        refine grow_run rfl rfl rfl ?_
        apply Exists.intro
        refine ⟨fun w' hC hK => ?_, ?_⟩
        ·have e0 := sqw hC e0
         have e1 := sqw hC e1
         have e2 := sqw hC e2
         have d0 := sqw hC d0
         have d1 := sqw hC d1
         have d2 := sqw hC d2
         go_simp
         rfl
       refine grow_nil fun w5 hC _ => ?_
       have HE5 := hid (HE.out.ext (show Ext wr w5 from hC))
       clear hC e0 e1 e2 d0 d1 d2
       go_wp2
       go_roundw
       case rel => exact ⟨j + 1, by omega, by go_num, by rw [HN.out.1, HN.out.2, HPQ.out, HST.out], HE5.out⟩
       case measure => simp [intOf]; omega
      ·have HNE := hid (show s ≠ t from fun e => g3 (by rw [e]))
       go_wp2_with fail
       refine wp_region_grow (specOf []) (fun w' => Ext wr w') stable_nil (stableC_ext _) (by kernel_rfl) (by kernel_rfl) (Keep.drew (Keep.refl _ _)) ?_
       iterate 9
        (try simp only [Act.put, sqa, sqb, sqc])
        refine grow_run rfl rfl rfl ?_
        apply Exists.intro
        refine ⟨fun w' hC hK => ?_, ?_⟩
        ·have e0 := sqw hC e0
         have e1 := sqw hC e1
         have e2 := sqw hC e2
         have d0 := sqw hC d0
         have d1 := sqw hC d1
         have d2 := sqw hC d2
         go_simp
         rfl
       refine grow_nil fun w5 hC _ => ?_
       have HE5 := hid (HE.out.ext (show Ext wr w5 from hC))
       clear hC e0 e1 e2 d0 d1 d2
       go_wp2
       go_ret
       exact ⟨.inr ⟨rfl, fun e => HNE.out (HD.out e)⟩, HE5.out⟩
     ·have HNE := hid (show s ≠ t from fun e => g2 (by rw [e]))
      go_wp2_with fail
      refine wp_region_grow (specOf []) (fun w' => Ext wr w') stable_nil (stableC_ext _) (by kernel_rfl) (by kernel_rfl) (Keep.drew (Keep.refl _ _)) ?_
      iterate 9
       (try simp only [Act.put, sqa, sqb, sqc])
       refine grow_run rfl rfl rfl ?_
       apply Exists.intro
       refine ⟨fun w' hC hK => ?_, ?_⟩
       ·have e0 := sqw hC e0
        have e1 := sqw hC e1
        have e2 := sqw hC e2
        have d0 := sqw hC d0
        have d1 := sqw hC d1
        have d2 := sqw hC d2
        go_simp
        rfl
      refine grow_nil fun w5 hC _ => ?_
      have HE5 := hid (HE.out.ext (show Ext wr w5 from hC))
      clear hC e0 e1 e2 d0 d1 d2
      go_wp2
      go_ret
      exact ⟨.inr ⟨rfl, fun e => HNE.out (HD.out e)⟩, HE5.out⟩
    ·have HNE := hid (show s ≠ t from fun e => g1 (by rw [e]))
     go_wp2_with fail
     refine wp_region_grow (specOf []) (fun w' => Ext wr w') stable_nil (stableC_ext _) (by kernel_rfl) (by kernel_rfl) (Keep.drew (Keep.refl _ _)) ?_
     iterate 9
      (try simp only [Act.put, sqa, sqb, sqc])
      refine grow_run rfl rfl rfl ?_
      apply Exists.intro
      refine ⟨fun w' hC hK => ?_, ?_⟩
      ·have e0 := sqw hC e0
       have e1 := sqw hC e1
       have e2 := sqw hC e2
       have d0 := sqw hC d0
       have d1 := sqw hC d1
       have d2 := sqw hC d2
       go_simp
       rfl
     refine grow_nil fun w5 hC _ => ?_
     have HE5 := hid (HE.out.ext (show Ext wr w5 from hC))
     clear hC e0 e1 e2 d0 d1 d2
     go_wp2
     go_ret
     exact ⟨.inr ⟨rfl, fun e => HNE.out (HD.out e)⟩, HE5.out⟩
   ·obtain rfl : j = q.length := by omega
    have HE := hid hE
    clear hE
    go_wp2
    go_ret
    refine ⟨.inl ⟨rfl, ?_⟩, HE.out⟩
    have := HPQ.out
    rw [List.take_length] at this
    exact this ▸ List.take_prefix _ _
theorem rsame03_yes (w : World) (S S2 : BS) (u v : Value) (p : List St) (h1 : Sl ESt w S u p) (h2 : Sl ESt w S2 v p) :
  Calls Tryd.prog 82 #[u, v] w fun e w' => e = .returned (.bool true) ∧ Ext w w' := by
 obtain ⟨A, c, rfl, _⟩ := h1.shape
 obtain ⟨B, d, rfl, _⟩ := h2.shape
 have H1 := hid h1
 have H2 := hid h2
 have hll : ((p.length : Int) == (p.length : Int)) = true := by simp
 clear h1 h2
 go_enter Tryd.func82, Tryd.ntmps82
 go_wp2_with fail
 refine (rbegins_ok w _ _ _ _ p p H1.out H2.out).mono ?_
 intro e w1 h
 obtain ⟨rfl, hE⟩ := h.yes (List.prefix_refl p)
 have HE := hid hE
 clear hE h
 go_wp2
 go_ret
 exact ⟨rfl, HE.out⟩
theorem rsame06_yes (w : World) (S S2 : BS) (u t : Value) (x : Cp) (hx : CAt w S u x) (hy : CAt w S2 t x) :
  Calls Tryd.prog 64 #[u, t] w fun e w' => e = .returned (.bool true) ∧ Ext w w' := by
 obtain ⟨pv, lv, ov, rfl, h1, h2, h3⟩ := hx
 obtain ⟨Ap, cp, rfl, _⟩ := h1.shape
 obtain ⟨Al, cl, rfl, _⟩ := h2.shape
 obtain ⟨Ao, co, rfl, _⟩ := h3.shape
 obtain ⟨qv, mv, nv, rfl, k1, k2, k3⟩ := hy
 obtain ⟨Bp, dp, rfl, _⟩ := k1.shape
 obtain ⟨Bl, dl, rfl, _⟩ := k2.shape
 obtain ⟨Bo, do_, rfl, _⟩ := k3.shape
 obtain ⟨W, hW⟩ : ∃ W, (w.alloc (.cells (cC x Ap cp Al cl Ao co) TCMP)).alloc (.cells (cC x Bp dp Bl dl Bo do_) TCMP) = W := ⟨_, rfl⟩
 have hE : Ext w W := by rw [← hW]; exact ((Keep.refl _ _).alloc _).alloc _
 have hb : Blk W w.heap.size TCMP (cC x Ap cp Al cl Ao co) := by rw [← hW]; exact (Blk.new _ _ _).alloc _
 have hc : Blk W (w.heap.size + 1) TCMP (cC x Bp dp Bl dl Bo do_) := by
  have := Blk.new (w.alloc (.cells (cC x Ap cp Al cl Ao co) TCMP)) TCMP (cC x Bp dp Bl dl Bo do_)
  rw [World.size_alloc, hW] at this
  exact this
 have HP1 := hid (h1.ext ESt.ok hE)
 have HP2 := hid (k1.ext ESt.ok hE)
 have HV1 := hid (show VAt W S (.agg (vC x.v Al cl Ao co)) x.v from VAt.ext ⟨_, _, rfl, h2, h3⟩ hE)
 have HV2 := hid (show VAt W S2 (.agg (vC x.v Bl dl Bo do_)) x.v from VAt.ext ⟨_, _, rfl, k2, k3⟩ hE)
 have HE := hid hE
 have HB := hid hb
 have HC := hid hc
 obtain ⟨a0, a1, a2, a3, a4, a5, a6, a7, a8, a9, a10, a11⟩ := sq12 hb
 obtain ⟨b0, b1, b2, b3, b4, b5, b6, b7, b8, b9, b10, b11⟩ := sq12 hc
 have q0 : (x.key.toList == x.key.toList) = true := by simp
 have q1 : (x.s.toList == x.s.toList) = true := by simp
 clear h1 h2 h3 k1 k2 k3 hE hb hc
 go_enter Tryd.func64, Tryd.ntmps64
 go_wp2_with fail
 refine (same_eq _ x.v (Nat.le_refl _) _ _ _ _ W HV1.out HV2.out).mono ?_
 rintro e w1 ⟨rfl, hE1⟩
 have HE1 := hid (HE.out.ext hE1)
 have HP1' := hid (HP1.out.ext ESt.ok hE1)
 have HP2' := hid (HP2.out.ext ESt.ok hE1)
 replace a1 := sqw hE1 a1
 replace b1 := sqw hE1 b1
 clear hE1 hW
 go_wp2_with fail
 refine (rsame03_yes w1 _ _ _ _ x.path HP1'.out HP2'.out).mono ?_
 rintro e w2 ⟨rfl, hE2⟩
 have HE2 := hid (HE1.out.ext hE2)
 clear hE2
 go_wp2
 go_ret
 exact ⟨rfl, HE2.out⟩
def EAc : El Ac := { size := 7, rd := fun w S cs a => ∃ pv vv, cs = [pv, U8 a.kind, .int .i64 a.i, .int .i64 a.j, .int .i64 a.n, .string a.s, vv] ∧ BytesS w S pv a.path ∧ Sl ETok w S vv a.v }
theorem EAc.ok : EAc.Ok where
 pos := by decide
 len := fun ⟨_, _, h, _⟩ => by subst h; rfl
 one := fun ⟨pv, vv, h, h1, h2⟩ u hu => by
  subst h
  obtain ⟨A, c, rfl, _⟩ := h1.shape
  obtain ⟨B, d, rfl, _⟩ := h2.shape
  simp at hu
  rcases hu with rfl | rfl | rfl | rfl | rfl | rfl | rfl <;> rfl
 keep := fun ⟨pv, vv, h, h1, h2⟩ hk hF => ⟨pv, vv, h, h1.keep EU8.ok hk hF, h2.keep ETok.ok hk hF⟩
 more := fun ⟨pv, vv, h, h1, h2⟩ hS => ⟨pv, vv, h, h1.more EU8.ok fun k hk => hS k hk, h2.more ETok.ok fun k hk => hS k hk⟩
def NumIs (w : World) (e : Ending) (w' : World) : Prop := ∃ z : Int, e = .returned (.int .i64 z) ∧ Ext w w'
theorem heavy6_any (w : World) (S : BS) (v : Value) (l : List Ac) (h : Sl EAc w S v l) : Calls Tryd.prog 26 #[v] w (NumIs w) := by
 obtain ⟨A, c, rfl, hlc, hcm⟩ := h.shape
 unfold maxLen at hcm
 have H := hid h
 obtain ⟨n, hn⟩ : ∃ n, l.length = n := ⟨_, rfl⟩
 rw [hn] at H hlc ⊢
 have HN := hid hn
 clear h hn
 go_enter Tryd.func26, Tryd.ntmps26
 go_wp2_with fail
 go_loopw [3, 4] (fun y i wr => ∃ (j : Nat) (z : Int), j ≤ n ∧ i = .int .i64 j ∧ y = .int .i64 z ∧ Ext w wr) (fun _ i _ => n - (intOf i).toNat)
 case atStart => exact ⟨0, 0, by omega, rfl, rfl, Keep.refl _ _⟩
 case round =>
  obtain ⟨j, z, hj, rfl, rfl, hE⟩ := hrel
  have HE := hid hE
  clear hE
  by_cases hlt : j < n
  ·have hX : (j : Int) < n := by omega
   obtain ⟨b, off, c0, rfl, _, _, ⟨pv, vv, rfl, h1, h2⟩, hc⟩ := (H.out.ext EAc.ok HE.out).at_ EAc.ok (k := j) (by rw [HN.out]; exact hlt)
   generalize l[j]'(by rw [HN.out]; exact hlt) = a at *
   obtain ⟨Ap, cp, rfl, _⟩ := h1.shape
   obtain ⟨Av, cv, rfl, hcv, hcvm⟩ := h2.shape
   have g0 := hc 0 _ rfl
   have g5 := hc 5 _ rfl
   have g6 := hc 6 _ rfl
   have e7 : EAc.size = 7 := rfl
   simp only [e7, Nat.add_zero] at g0 g5 g6
   have H2 := hid h2
   clear hc e7 h1 h2
   unfold maxLen at hcvm
   obtain ⟨m, hm⟩ : ∃ m, a.v.length = m := ⟨_, rfl⟩
   have HM := hid hm
   rw [hm] at g6 H2 hcv
   clear hm
   go_wp2_with fail
   refine wp_region_grow (specOf []) (fun w' => Ext wr w') stable_nil (stableC_ext _) (by kernel_rfl) (by kernel_rfl) (Keep.drew (Keep.refl _ _)) ?_
   iterate 17
    (try simp only [Act.put, sqa, sqb, sqc])
    refine grow_run rfl rfl rfl ?_
    apply Exists.intro
    refine ⟨fun w' hC hK => ?_, ?_⟩
    ·have g0 := sqw hC g0
     have g5 := sqw hC g5
     go_simp
     rfl
   refine grow_nil fun w1 hC _ => ?_
   have hC : Ext wr w1 := hC
   replace g6 := sqw hC g6
   have HE1 := hid (HE.out.ext hC)
   have HB1 := hid (H2.out.ext ETok.ok hC)
   clear hC g0 g5
   go_wp2_with fail
   go_loopw [3, 5] (fun y i w2 => ∃ (k : Nat) (z : Int), k ≤ m ∧ i = .int .i64 k ∧ y = .int .i64 z ∧ w2 = w1) (fun _ i _ => m - (intOf i).toNat)
   case atStart => exact ⟨0, _, by omega, rfl, rfl, rfl⟩
   case round =>
    obtain ⟨k, z2, hk, rfl, rfl, rfl⟩ := hrel
    by_cases hlt2 : k < m
    ·have hX2 : (k : Int) < m := by omega
     obtain ⟨b2, o2, c2, rfl, _, _, hr2, hc2⟩ := HB1.out.at_ ETok.ok (k := k) (by rw [HM.out]; exact hlt2)
     have hr2 : c2 = [U8 _, .int .i64 _, .string _, U8 _] := hr2
     subst hr2
     have t2 := hc2 2 _ rfl
     have e4 : ETok.size = 4 := rfl
     simp only [e4] at t2
     clear hc2 e4
     go_wp2
     exact ⟨⟨k + 1, _, by omega, by go_num, rfl, by first | trivial | rfl⟩, by simp [intOf]; omega⟩
    ·obtain rfl : k = m := by omega
     have hX2 : ¬ (k : Int) < k := by omega
     go_wp2
     exact ⟨⟨j + 1, _, by omega, by go_num, rfl, HE1.out⟩, by simp [intOf]; omega⟩
  ·obtain rfl : j = n := by omega
   have hX : ¬ (j : Int) < j := by omega
   go_wp2
   go_ret
   exact ⟨_, rfl, HE.out⟩
abbrev cmpV (k : Value) (p key : Value) (i j : Int) (nn v0 v1 v2 v3 v4 s : Value) : Value := .agg #[k, p, key, .int .i64 i, .int .i64 j, nn, v0, v1, v2, v3, v4, s]
def knownL (k : UInt8) : Bool := k == 4 || k == 5 || k == 6 || k == 7
def bl (a b : Int) : Int := if a < b then 1 else 0
def up (a b : Int) (same : Bool) : Int := if a = b ∧ same = true then 1 else bl a b
theorem kind_cases (k : UInt8) : k = 4 ∨ k = 5 ∨ k = 6 ∨ k = 7 ∨ (knownL k = false ∧ ((k.toNat : Int) == 4) = false ∧ ((k.toNat : Int) == 5) = false ∧ ((k.toNat : Int) == 6) = false ∧ ((k.toNat : Int) == 7) = false) := by
 by_cases h4 : k = 4
 ·exact .inl h4
 by_cases h5 : k = 5
 ·exact .inr (.inl h5)
 by_cases h6 : k = 6
 ·exact .inr (.inr (.inl h6))
 by_cases h7 : k = 7
 ·exact .inr (.inr (.inr (.inl h7)))
 have hn : ∀ n : Nat, n < 256 → k ≠ UInt8.ofNat n → ((k.toNat : Int) == (n : Int)) = false := fun n hn h => by
  simp only [beq_eq_false_iff_ne, ne_eq]
  intro e
  apply h
  apply UInt8.toNat.inj
  simp; omega
 exact .inr (.inr (.inr (.inr ⟨by simp [knownL, h4, h5, h6, h7], hn 4 (by omega) h4, hn 5 (by omega) h5, hn 6 (by omega) h6, hn 7 (by omega) h7⟩)))
def atL (k : UInt8) (ci cj i : Int) : Int × Bool :=
 if k = 4 then (i + up ci i true, true)
 else if k = 7 ∧ ci = i then (cj, true)
 else if k = 7 then (i - bl ci i + up cj (i - bl ci i) true, true)
 else if (k = 5 ∨ k = 6) ∧ ci = i then (0, false)
 else if k = 5 then (i - bl ci i, true)
 else (i, true)
def famN (k : Nat) : Nat := if k = 1 then 2 else if k = 2 ∨ k = 3 then 5 else if k = 4 ∨ k = 5 ∨ k = 6 ∨ k = 7 then 4 else if k = 8 ∨ k = 9 then 3 else 0
def PathP (b : Nat) (p : List St) (n m : Nat) (v : Value) (w : World) : Prop := b ≤ n ∧ ∃ A c, v = .slice A p.length c ∧ Own ESt w n TSTEP (fun _ => False) v p ∧ ∀ g, v.ownBlock = some g → g < m
theorem PathP.ext {b n m : Nat} {p : List St} {v : Value} {w w' : World} (h : PathP b p n m v w) (he : Ext w w') : PathP b p n m v w' := by
 obtain ⟨h0, A, c, e, h1, h2⟩ := h; exact ⟨h0, A, c, e, h1.ext ESt.ok he, h2⟩
def ValP (b : Nat) (x : V) (n m : Nat) (v : Value) (w : World) : Prop := b ≤ n ∧ VIs w (fun k => n ≤ k ∧ k < m) v x
theorem ValP.ext {b n m : Nat} {x : V} {v : Value} {w w' : World} (h : ValP b x n m v w) (he : Ext w w') : ValP b x n m v w' := ⟨h.1, h.2.ext he⟩
end Go.Proofs.YtggkidnlmaindaaDoor
