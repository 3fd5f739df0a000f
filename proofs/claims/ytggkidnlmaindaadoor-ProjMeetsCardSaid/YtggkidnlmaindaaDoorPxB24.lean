/- RefPut: laid together. -/
import Derived.Test.YtggkidnlmaindaaDoorPxB13
set_option linter.unusedSimpArgs false
set_option linter.unusedVariables false
set_option maxHeartbeats 25600000
set_option maxRecDepth 20000
namespace Go.Proofs.YtggkidnlmaindaaDoor
open Go.RowKit
theorem own_cells2 {α : Type} {E : El α} {w : World} {base : Nat} {T : TypeId} {S : BS} {g cap n : Nat} {xs : List α} (h : Own E w base T S (.slice (some ⟨g, 0, none⟩) n cap) xs) :
  ∃ cur, base ≤ g ∧ n = xs.length ∧ Blk w g T cur ∧ xs.length ≤ cap ∧ cap ≤ maxLen ∧ cur.size = cap * E.size ∧ Cells E w S (cur.toList.take (xs.length * E.size)) xs := by
 rcases h with ⟨h, _⟩ | ⟨g', cap', cur, e, h1, h2, h3, h4, h5, h6⟩
 ·cases h
 ·injection e with e1 e2 e3
  injection e1 with e1
  injection e1 with e1 _ _
  subst e1 e2 e3
  exact ⟨cur, h1, rfl, h2, h3, h4, h5, h6⟩
theorem take_mid {l m : List Value} {o k n : Nat} (hm : m.length = k) (ho : o + k ≤ n) (hn : n ≤ l.length) : (l.take o ++ m ++ l.drop (o + k)).take n = (l.take n).take o ++ (m ++ (l.take n).drop (o + k)) := by
 have h1 : (l.take o).length = o := by rw [List.length_take]; omega
 rw [List.append_assoc, List.take_append, List.take_of_length_le (l := l.take o) (by omega), List.take_append, List.take_of_length_le (l := m) (by omega), List.drop_take, List.take_take, Nat.min_eq_left (by omega), h1, hm,
  show n - o - k = n - (o + k) from by omega]
theorem own_set {α : Type} {E : El α} (hE : E.Ok) {w w' : World} {base : Nat} {T : TypeId} {S S2 : BS} {g cap i : Nat} {xs : List α} {m : List Value} {x : α} {cur cur' : Array Value} (hc : Cells E w S (cur.toList.take (xs.length * E.size)) xs) (hbg : base ≤ g) (hcap : xs.length ≤ cap) (hcm : cap ≤ maxLen) (hsz : cur.size = cap * E.size)
  (hi : i < xs.length) (hk : Keep (· = g) w w') (hb' : Blk w' g T cur') (hl' : cur'.toList = cur.toList.take (i * E.size) ++ m ++ cur.toList.drop (i * E.size + E.size)) (hx : E.rd w' S2 m x) (hS : ¬ S g) :
  Own E w' base T (fun q => S q ∨ S2 q) (.slice (some ⟨g, 0, none⟩) xs.length cap) (xs.set i x) := by
 have hml := hE.len hx
 obtain ⟨n, hn⟩ : ∃ n, n = xs.length := ⟨_, rfl⟩
 rw [← hn] at hc hcap hi ⊢
 have h1 := (hc.split hE i (by omega)).1
 have h2 := (hc.split hE (i + 1) (by omega)).2
 have e1 : (i + 1) * E.size = i * E.size + E.size := Nat.succ_mul i _
 have e2 : (i + 1) * E.size ≤ n * E.size := Nat.mul_le_mul_right _ (by omega)
 have e3 : n * E.size ≤ cap * E.size := Nat.mul_le_mul_right _ hcap
 have hlen : cur.toList.length = cap * E.size := by simpa using hsz
 refine .inr ⟨g, cap, cur', by rw [List.length_set, ← hn], hbg, hb', by rw [List.length_set]; omega, hcm, ?_, ?_⟩
 ·have := congrArg List.length hl'
  rw [List.length_append, List.length_append, List.length_take, List.length_drop, hml, hlen] at this
  have h4 : cur'.toList.length = cur'.size := by simp
  omega
 rw [List.length_set, hl', List.set_eq_take_append_cons_drop, if_pos (by omega)]
 have key := take_mid (l := cur.toList) (m := m) (o := i * E.size) (k := E.size) (n := n * E.size) hml (by omega) (by omega)
 rw [← hn, key, ← e1]
 exact ((h1.keep hE hk fun k hk e => hS (e ▸ hk)).more hE fun _ _ h => .inl h).append (Cells.append (xs := [x]) (Cells.single (hE.more hx fun _ _ h => .inr h)) ((h2.keep hE hk fun k hk e => hS (e ▸ hk)).more hE fun _ _ h => .inl h))
structure CopyRows (w0 : Nat) (w : World) (v : V) (lv ov : Value) : Prop where
 l : Own EVal w w0 TVAL (fun q => w0 ≤ q ∧ lv.ownBlock ≠ some q ∧ ov.ownBlock ≠ some q) lv v.l
 o : Own EField w w0 TFIELD (fun q => w0 ≤ q ∧ lv.ownBlock ≠ some q ∧ ov.ownBlock ≠ some q) ov v.o
 ne : ∀ g, lv.ownBlock = some g → ov.ownBlock ≠ some g
theorem RCopyIs.rows {w w' : World} {v : V} {e : Ending} (h : RCopyIs w v e w') : ∃ A c A' c', e = .returned (.agg (vC v A c A' c')) ∧ CopyRows w.heap.size w' v (.slice A v.l.length c) (.slice A' v.o.length c') ∧ Ext w w' := by
 obtain ⟨lv, ov, rfl, h1, h2, h3, h4⟩ := h
 obtain ⟨A, c, rfl, _⟩ := h1.shape
 obtain ⟨A', c', rfl, _⟩ := h2.shape
 exact ⟨A, c, A', c', rfl, ⟨h1.more EVal.ok fun q _ h => ⟨h.1, h.2.2.1, h.2.2.2⟩, h2.more EField.ok fun q _ h => ⟨h.1, h.2.2.1, h.2.2.2⟩, h3⟩, h4⟩
theorem CopyRows.ext {w0 : Nat} {w w' : World} {v : V} {lv ov : Value} (h : CopyRows w0 w v lv ov) (he : Ext w w') : CopyRows w0 w' v lv ov := ⟨h.l.ext EVal.ok he, h.o.ext EField.ok he, h.ne⟩
def PutTo (w0 b : Nat) (w w' : World) (g : Nat) (y : V) (lv ov : Value) : Prop := Keep (· = g) w w' ∧ w0 ≤ g ∧ g < w.heap.size ∧ VAt w' (fun q => b ≤ q) (.agg #[U8 y.kind, .int .i64 y.n, .string y.s, lv, ov]) y
theorem CopyRows.putL {w0 b : Nat} {w : World} {v z y : V} {g cap k : Nat} {ov : Value} {a0 a1 a2 a3 a4 : Value} (h : CopyRows w0 w v (.slice (some ⟨g, 0, none⟩) v.l.length cap) ov) (hb : b ≤ w0) (hk : v.child? (.l k) = some y)
  (hz : VAt w (fun q => b ≤ q ∧ q < w0) (.agg #[a0, a1, a2, a3, a4]) z) : PutTo w0 b w (set5 w g (k * 5) a0 a1 a2 a3 a4) g (v.put (.l k) z) (.slice (some ⟨g, 0, none⟩) v.l.length cap) ov := by
 rw [child_l] at hk
 have hi := (List.getElem?_eq_some_iff.1 hk).1
 obtain ⟨cur, hbg, _, hblk, hcap, hcm, hsz, hc⟩ := own_cells2 h.l
 have e5 : EVal.size = 5 := rfl
 have e6 : (k + 1) * 5 ≤ cap * 5 := Nat.mul_le_mul_right _ (by omega)
 rw [e5] at hsz
 obtain ⟨cur', hb', hl'⟩ := set5_blk hblk (k * 5) a0 a1 a2 a3 a4 (by omega)
 have hkk := set5_keep w g (k * 5) a0 a1 a2 a3 a4
 have hl2 := own_set EVal.ok hc hbg hcap hcm hsz hi hkk hb' hl' (S2 := fun q => b ≤ q ∧ q < w0) (EVal.ok.keep hz.rd hkk fun q hq e => by omega) (fun hS => hS.2.1 rfl)
 have ho2 := h.o.keep EField.ok hkk (fun q hq e => hq.2.1 (by subst e; rfl)) (fun q hq e => h.ne g rfl (by subst e; exact hq))
 refine ⟨hkk, hbg, hblk.lt, ?_⟩
 obtain ⟨p1, p2⟩ := put_l v k z
 rw [put_kind, put_n, put_s]
 refine ⟨_, _, by rw [put_kind, put_n, put_s], ?_, ?_⟩
 ·rw [p1]
  refine (hl2.sl EVal.ok).more EVal.ok fun q _ hq => ?_
  rcases hq with (hq | hq) | hq
  ·omega
  ·omega
  ·obtain rfl : g = q := by simpa [Value.ownBlock] using hq
   omega
 ·rw [p2]
  refine (ho2.sl EField.ok).more EField.ok fun q _ hq => ?_
  rcases hq with hq | hq
  ·omega
  ·have := (h.o.lt hq).1; omega
theorem CopyRows.putO {w0 b : Nat} {w : World} {v z y : V} {g cap k : Nat} {lv : Value} {a0 a1 a2 a3 a4 : Value} (h : CopyRows w0 w v lv (.slice (some ⟨g, 0, none⟩) v.o.length cap)) (hb : b ≤ w0) (hk : v.child? (.o k) = some y)
  (hz : VAt w (fun q => b ≤ q ∧ q < w0) (.agg #[a0, a1, a2, a3, a4]) z) : PutTo w0 b w (set5 w g (k * 6 + 1) a0 a1 a2 a3 a4) g (v.put (.o k) z) lv (.slice (some ⟨g, 0, none⟩) v.o.length cap) := by
 rw [child_o] at hk
 obtain ⟨f, hf⟩ : ∃ f, v.o[k]? = some f := by
  cases hf : v.o[k]? with
  | none => rw [hf] at hk; cases hk
  | some f => exact ⟨f, rfl⟩
 obtain ⟨hi, hfe⟩ := List.getElem?_eq_some_iff.1 hf
 obtain ⟨cur, hbg, _, hblk, hcap, hcm, hsz, hc⟩ := own_cells2 h.o
 have e5 : EField.size = 6 := rfl
 have e6 : (k + 1) * 6 ≤ cap * 6 := Nat.mul_le_mul_right _ (by omega)
 have e7 : (k + 1) * 6 ≤ v.o.length * 6 := Nat.mul_le_mul_right _ (by omega)
 rw [e5] at hsz
 obtain ⟨cur', hb', hl'⟩ := set5_blk hblk (k * 6 + 1) a0 a1 a2 a3 a4 (by omega)
 have hkk := set5_keep w g (k * 6 + 1) a0 a1 a2 a3 a4
 have hkey : cur.toList[k * 6]? = some (.string f.key) := by
  obtain ⟨c0, hr, hg⟩ := hc.get EField.ok hi
  rw [hfe] at hr
  obtain ⟨c1, rfl, _⟩ := rdF_iff.1 hr
  have := hg 0 _ rfl
  rw [e5, List.getElem?_take] at this
  simpa [show k * 6 < v.o.length * 6 from by omega] using this
 have hl2' : cur'.toList = cur.toList.take (k * EField.size) ++ [.string f.key, a0, a1, a2, a3, a4] ++ cur.toList.drop (k * EField.size + EField.size) := by
  rw [hl', e5, List.take_add_one, hkey]
  simp
 have hl2 := own_set EField.ok hc hbg hcap hcm hsz hi hkk hb' hl2' (x := .mk f.key z) (S2 := fun q => b ≤ q ∧ q < w0) (rdF_iff.2 ⟨_, rfl, EVal.ok.keep hz.rd hkk fun q hq e => by omega⟩) (fun hS => hS.2.2 rfl)
 have ho2 := h.l.keep EVal.ok hkk (fun q hq e => hq.2.2 (by subst e; rfl)) (fun q hq e => h.ne q hq (by subst e; rfl))
 refine ⟨hkk, hbg, hblk.lt, ?_⟩
 obtain ⟨p1, p2⟩ := put_o v k z
 rw [hf] at p2
 simp only at p2
 rw [put_kind, put_n, put_s]
 refine ⟨_, _, by rw [put_kind, put_n, put_s], ?_, ?_⟩
 ·rw [p1]
  refine (ho2.sl EVal.ok).more EVal.ok fun q _ hq => ?_
  rcases hq with hq | hq
  ·omega
  ·have := (h.l.lt hq).1; omega
 ·rw [p2]
  refine (hl2.sl EField.ok).more EField.ok fun q _ hq => ?_
  rcases hq with (hq | hq) | hq
  ·omega
  ·omega
  ·obtain rfl : g = q := by simpa [Value.ownBlock] using hq
   omega
def OutE (y : V) (err : Int) (n m : Nat) (v : Value) (w : World) : Prop := ∃ A c A' c', v = .tuple #[.agg (vC y A c A' c'), .int .i64 err] ∧ VAt w (fun q => n ≤ q ∧ q < m) (.agg (vC y A c A' c')) y
theorem OutE.ext {y : V} {err : Int} {n m : Nat} {v : Value} {w w' : World} (h : OutE y err n m v w) (he : Ext w w') : OutE y err n m v w' := by
 obtain ⟨A, c, A', c', e, h⟩ := h
 exact ⟨A, c, A', c', e, h.ext he⟩
def OutEQ (k : Nat) (y : V) (err : Int) (n m : Nat) (v : Value) (w : World) : Prop := k ≤ n ∧ OutE y err n m v w
theorem OutEQ.ext {k : Nat} {y : V} {err : Int} {n m : Nat} {v : Value} {w w' : World} (h : OutEQ k y err n m v w) (he : Ext w w') : OutEQ k y err n m v w' := ⟨h.1, h.2.ext he⟩
theorem OutE.fill {y : V} {err e' : Int} {w0 w : World} {n m g k : Nat} {a0 a1 a2 a3 a4 : Value} (hE : Ext w0 w) (hb : BoxQ w0.heap.size g k (.pointer (some ⟨g, 0, none⟩)) w) (hv : OutE y err n m (.tuple #[.agg #[a0, a1, a2, a3, a4], .int .i64 e']) w) (hap : k ≤ n ∨ m ≤ g) :
  Ext w0 (fillW w g a0 a1 a2 a3 a4) ∧ Blk (fillW w g a0 a1 a2 a3 a4) g TVAL #[a0, a1, a2, a3, a4] ∧ VAt (fillW w g a0 a1 a2 a3 a4) (fun q => n ≤ q ∧ q < m) (.agg #[a0, a1, a2, a3, a4]) y := by
 obtain ⟨A, c, A', c', h4, h5⟩ := hv
 simp only [Value.tuple.injEq, Array.mk.injEq, List.cons.injEq, Value.agg.injEq, and_true] at h4
 obtain ⟨⟨rfl, rfl, rfl, rfl, rfl⟩, _⟩ := h4
 have hk : Keep (· = g) w (fillW w g (U8 y.kind) (.int .i64 y.n) (.string y.s) (.slice A y.l.length c) (.slice A' y.o.length c')) := set5_keep w g 0 _ _ _ _ _
 exact ⟨hE.trans hk fun q hq e => by have := hb.1; omega, set5_to hb.2.2.2 rfl _ _ _ _ _, h5.keep hk fun q hq e => by have := hb.2.2.1; omega⟩
def RPutIs (v : V) (p : List St) (x : V) (w : World) (e : Ending) (w' : World) : Prop := (match putV v p x with
 | none => e = .returned (.tuple #[ZVAL, .int .i64 30])
 | some y => ∃ u, e = .returned (.tuple #[u, .int .i64 0]) ∧ VAt w' (fun q => w.heap.size ≤ q) u y) ∧ Ext w w'
def PutTwo (v : V) (p : List St) (x z : V) (err : Int) : Prop := (putV v p x = none ∧ err = 30) ∨ (putV v p x = some z ∧ err = 0)
theorem rput_o (v : V) (p : List St) (x : V) : ∃ (z : V) (err : Int), (∀ (w w' : World) (e : Ending), RPutIs v p x w e w' → ∃ u, e = .returned u ∧ Ext w w' ∧ OutE z err w.heap.size w'.heap.size u w') ∧ PutTwo v p x z err := by
 cases hs : putV v p x with
 | none =>
  refine ⟨.mk 0 0 ⟨#[]⟩ [] [], 30, fun w w' e h => ?_, .inl ⟨hs, rfl⟩⟩
  obtain ⟨h1, hE⟩ := h
  rw [hs] at h1
  exact ⟨_, h1, hE, none, 0, none, 0, rfl, _, _, rfl, Sl.nil _ _, Sl.nil _ _⟩
 | some z =>
  refine ⟨z, 0, fun w w' e h => ?_, .inr ⟨hs, rfl⟩⟩
  obtain ⟨h1, hE⟩ := h
  rw [hs] at h1
  obtain ⟨u, rfl, hva⟩ := h1
  obtain ⟨lv, ov, rfl, hl, ho⟩ := hva.cut
  obtain ⟨A, c, A', c', e, hva⟩ := (show VAt w' (fun q => w.heap.size ≤ q ∧ q < w'.heap.size) (.agg #[U8 z.kind, .int .i64 z.n, .string z.s, lv, ov]) z from ⟨_, _, rfl, hl, ho⟩).form
  rw [e] at hva ⊢
  exact ⟨_, rfl, hE, A, c, A', c', rfl, hva⟩
theorem put_step {v z1 z x : V} {s : St} {p : List St} {idx : Nat} {err : Int} (hs : StepTo v s z1 idx err) : (err ≠ 0 → putV v (s :: p) x = none ∧ err = 30) ∧ (err = 0 → ∃ loc, stepV v s = some loc ∧ idx = loc.idx ∧ v.child? loc = some z1) := by
 rcases hs with ⟨h1, rfl⟩ | ⟨loc, h1, h2, h3, rfl⟩
 ·exact ⟨fun _ => ⟨by rw [putV, h1], rfl⟩, fun h => by cases h⟩
 ·exact ⟨fun h => absurd rfl h, fun _ => ⟨loc, h1, h2, h3⟩⟩
theorem put_step2 {v z1 z x : V} {s : St} {p : List St} {loc : Loc} {err : Int} (h1 : stepV v s = some loc) (h2 : v.child? loc = some z1) (h : PutTwo z1 p x z err) : (err ≠ 0 → putV v (s :: p) x = none ∧ err = 30) ∧ (err = 0 → putV v (s :: p) x = some (v.put loc z)) := by
 rcases h with ⟨h3, rfl⟩ | ⟨h3, rfl⟩
 ·exact ⟨fun _ => ⟨by simp only [putV, h1, h2, h3, Option.map_none], rfl⟩, fun h => by cases h⟩
 ·exact ⟨fun h => absurd rfl h, fun _ => by simp only [putV, h1, h2, h3, Option.map_some]⟩
theorem loc_of {v : V} {s : St} {loc : Loc} (h : stepV v s = some loc) : (s.list = true ∧ ∃ i, loc = .l i) ∨ (s.list = false ∧ ∃ i, loc = .o i) := by
 cases hl : s.list with
 | true =>
  rw [stepV_l hl] at h
  split at h
  ·injection h with h; exact .inl ⟨rfl, _, h.symm⟩
  ·cases h
 | false =>
  rw [stepV_o hl] at h
  split at h
  ·injection h with h; exact .inr ⟨rfl, _, h.symm⟩
  ·cases h
theorem rput_ok : ∀ (p : List St) (w : World) (u ux pv : Value) (v x : V) (S S' S2 : BS), VAt w S u v → VAt w S2 ux x → Sl ESt w S' pv p → v.size ≤ 1000000 → x.size ≤ 1000000 →
  Calls Tryd.prog 74 #[u, pv, ux] w (RPutIs v p x w) := by
 intro p
 induction p with
 | nil => ?_
 | cons s p ih => ?_
 all_goals intro w u ux pv v x S S' S2 hu hx hp hsz hszx
 ·skip
  obtain ⟨lv, ov, rfl, hl, ho⟩ := hu.cut
  obtain ⟨A, c, rfl, _, _⟩ := hl.shape
  obtain ⟨A', c', rfl, _, _⟩ := ho.shape
  obtain ⟨lx, ox, rfl, hlx, hox⟩ := hx
  obtain ⟨B, d, rfl, _⟩ := hlx.shape
  obtain ⟨B', d', rfl, _⟩ := hox.shape
  obtain ⟨Ap, cp, rfl, hpl, hpm⟩ := hp.shape
  unfold maxLen at hpm
  obtain ⟨w1, hw1⟩ : ∃ w1, w1 = w.alloc (.cells (vC v A c A' c') TVAL) := ⟨_, rfl⟩
  obtain ⟨w2, hw2⟩ : ∃ w2, w2 = w1.alloc (.cells (vC x B d B' d') TVAL) := ⟨_, rfl⟩
  obtain ⟨w3, hw3⟩ : ∃ w3, w3 = w2.alloc (.cells #[.int .u8 0, .int .i64 0, .string ⟨#[]⟩, .slice none 0 0, .slice none 0 0] TVAL) := ⟨_, rfl⟩
  have hz1 : w1.heap.size = w.heap.size + 1 := by rw [hw1]; simp
  have hz2 : w2.heap.size = w.heap.size + 2 := by rw [hw2]; simp [hz1]
  have hE1 : Ext w w1 := by rw [hw1]; exact (Keep.refl _ _).alloc _
  have hE2 : Ext w1 w2 := by rw [hw2]; exact (Keep.refl _ _).alloc _
  have hE3 : Ext w2 w3 := by rw [hw3]; exact (Keep.refl _ _).alloc _
  have hb1 : Blk w3 w.heap.size TVAL (vC v A c A' c') := by
   have := Blk.new w TVAL (vC v A c A' c')
   rw [← hw1] at this
   exact (this.keep hE2 id).keep hE3 id
  have hb2 : Blk w3 (w.heap.size + 1) TVAL (vC x B d B' d') := by
   have := Blk.new w1 TVAL (vC x B d B' d')
   rw [← hw2, hz1] at this
   exact this.keep hE3 id
  have hb3 : Blk w3 (w.heap.size + 2) TVAL #[.int .u8 0, .int .i64 0, .string ⟨#[]⟩, .slice none 0 0, .slice none 0 0] := by
   have := Blk.new w2 TVAL #[.int .u8 0, .int .i64 0, .string ⟨#[]⟩, .slice none 0 0, .slice none 0 0]
   rwa [← hw3, hz2] at this
  have hE : Ext w w3 := (hE1.ext hE2).ext hE3
  have hz3 : w.heap.size + 3 ≤ w3.heap.size := by rw [hw3]; simp [hz2]
  have HE := hid hE
  have HB1 := hid hb1
  have HB2 := hid hb2
  have HB3 := hid hb3
  have HV := hid (show VAt w3 (fun q => q < w.heap.size) (.agg (vC v A c A' c')) v from (VAt.ext ⟨_, _, rfl, hl, ho⟩ hE).more fun q _ h => h.2)
  have HX := hid (show VAt w3 S2 (.agg (vC x B d B' d')) x from VAt.ext ⟨_, _, rfl, hlx, hox⟩ hE)
  have HP := hid (hp.ext ESt.ok hE)
  have HSZ := hid (And.intro hsz hszx)
  have e3 : w3 = ((w.alloc (.cells (vC v A c A' c') TVAL)).alloc (.cells (vC x B d B' d') TVAL)).alloc (.cells #[.int .u8 0, .int .i64 0, .string ⟨#[]⟩, .slice none 0 0, .slice none 0 0] TVAL) := by rw [hw3, hw2, hw1]
  clear hw1 hw2 hw3 hE1 hE2 hE3 hb1 hb2 hb3 hz1 hz2 hE hl ho hp hsz hszx hu hlx hox w1 w2
  have HC := hid (rcopy_any _ x (Nat.le_refl _) HSZ.out.2 _ _ w3 HX.out)
  obtain ⟨q0, q1, q2, q3, q4⟩ := blk5 HB2.out
  go_enter Tryd.func74, Tryd.ntmps74
  go_wp2_with fail
  rw [← e3]
  clear e3
  refine HC.out.mono ?_
  rintro e w4 h
  obtain ⟨u, rfl, hva, hE4⟩ := h.at_
  obtain ⟨Ar1, cr1, Ar2, cr2, rfl, hva⟩ := hva.form
  have hbr := HB3.out.keep hE4 id
  obtain ⟨r0, r1, r2, r3, r4⟩ := blk5 hbr
  obtain ⟨f0, f1, f2, f3, f4⟩ := sqf5 ((hbr))
  have hk := set5_keep w4 (w.heap.size + 2) 0 (U8 x.kind) (.int .i64 x.n) (.string x.s) (.slice Ar1 x.l.length cr1) (.slice Ar2 x.o.length cr2)
  have HT := hid (ret5 (HE.out.ext hE4) (by omega) hbr (U8 x.kind) (.int .i64 x.n) (.string x.s) (.slice Ar1 x.l.length cr1) (.slice Ar2 x.o.length cr2))
  have HVF := hid (show VAt (fillW w4 (w.heap.size + 2) (U8 x.kind) (.int .i64 x.n) (.string x.s) (.slice Ar1 x.l.length cr1) (.slice Ar2 x.o.length cr2)) (fun q => w.heap.size ≤ q) (.agg (vC x Ar1 cr1 Ar2 cr2)) x from (hva.keep hk fun q hq e => by omega).more fun q _ hq => by omega)
  clear hva hE4 hbr hk h q0 q1 q2 q3 q4
  go_wp2
  obtain ⟨hE5, t0, t1, t2, t3, t4⟩ := HT.out
  change bodyPost _ _ _ _ _ (fillW w4 (w.heap.size + 2) (U8 x.kind) (.int .i64 x.n) (.string x.s) (.slice Ar1 x.l.length cr1) (.slice Ar2 x.o.length cr2))
  generalize fillW w4 (w.heap.size + 2) (U8 x.kind) (.int .i64 x.n) (.string x.s) (.slice Ar1 x.l.length cr1) (.slice Ar2 x.o.length cr2) = wz at *
  refine bodyPost_ret (v := .tuple #[.agg (vC x Ar1 cr1 Ar2 cr2), .int .i64 0]) (by simp [results, Tryd.results74, go_sem, t0, t1, t2, t3, t4]) rfl ?_
  exact ⟨⟨_, rfl, HVF.out⟩, hE5⟩
 ·skip
  have HIH := hid ih
  clear ih
  obtain ⟨lv, ov, rfl, hl, ho⟩ := hu.cut
  obtain ⟨A, c, rfl, _, _⟩ := hl.shape
  obtain ⟨A', c', rfl, _, _⟩ := ho.shape
  obtain ⟨lx, ox, rfl, hlx, hox⟩ := hx
  obtain ⟨B, d, rfl, _⟩ := hlx.shape
  obtain ⟨B', d', rfl, _⟩ := hox.shape
  obtain ⟨Ap, cp, rfl, hpl, hpm⟩ := hp.shape
  unfold maxLen at hpm
  obtain ⟨w1, hw1⟩ : ∃ w1, w1 = w.alloc (.cells (vC v A c A' c') TVAL) := ⟨_, rfl⟩
  obtain ⟨w2, hw2⟩ : ∃ w2, w2 = w1.alloc (.cells (vC x B d B' d') TVAL) := ⟨_, rfl⟩
  obtain ⟨w3, hw3⟩ : ∃ w3, w3 = w2.alloc (.cells #[.int .u8 0, .int .i64 0, .string ⟨#[]⟩, .slice none 0 0, .slice none 0 0] TVAL) := ⟨_, rfl⟩
  have hz1 : w1.heap.size = w.heap.size + 1 := by rw [hw1]; simp
  have hz2 : w2.heap.size = w.heap.size + 2 := by rw [hw2]; simp [hz1]
  have hE1 : Ext w w1 := by rw [hw1]; exact (Keep.refl _ _).alloc _
  have hE2 : Ext w1 w2 := by rw [hw2]; exact (Keep.refl _ _).alloc _
  have hE3 : Ext w2 w3 := by rw [hw3]; exact (Keep.refl _ _).alloc _
  have hb1 : Blk w3 w.heap.size TVAL (vC v A c A' c') := by
   have := Blk.new w TVAL (vC v A c A' c')
   rw [← hw1] at this
   exact (this.keep hE2 id).keep hE3 id
  have hb2 : Blk w3 (w.heap.size + 1) TVAL (vC x B d B' d') := by
   have := Blk.new w1 TVAL (vC x B d B' d')
   rw [← hw2, hz1] at this
   exact this.keep hE3 id
  have hb3 : Blk w3 (w.heap.size + 2) TVAL #[.int .u8 0, .int .i64 0, .string ⟨#[]⟩, .slice none 0 0, .slice none 0 0] := by
   have := Blk.new w2 TVAL #[.int .u8 0, .int .i64 0, .string ⟨#[]⟩, .slice none 0 0, .slice none 0 0]
   rwa [← hw3, hz2] at this
  have hE : Ext w w3 := (hE1.ext hE2).ext hE3
  have hz3 : w.heap.size + 3 ≤ w3.heap.size := by rw [hw3]; simp [hz2]
  have HE := hid hE
  have HB1 := hid hb1
  have HB2 := hid hb2
  have HB3 := hid hb3
  have HV := hid (show VAt w3 (fun q => q < w.heap.size) (.agg (vC v A c A' c')) v from (VAt.ext ⟨_, _, rfl, hl, ho⟩ hE).more fun q _ h => h.2)
  have HX := hid (show VAt w3 S2 (.agg (vC x B d B' d')) x from VAt.ext ⟨_, _, rfl, hlx, hox⟩ hE)
  have HP := hid (hp.ext ESt.ok hE)
  have HSZ := hid (And.intro hsz hszx)
  have e3 : w3 = ((w.alloc (.cells (vC v A c A' c') TVAL)).alloc (.cells (vC x B d B' d') TVAL)).alloc (.cells #[.int .u8 0, .int .i64 0, .string ⟨#[]⟩, .slice none 0 0, .slice none 0 0] TVAL) := by rw [hw3, hw2, hw1]
  clear hw1 hw2 hw3 hE1 hE2 hE3 hb1 hb2 hb3 hz1 hz2 hE hl ho hp hsz hszx hu hlx hox w1 w2
  obtain ⟨z1, idx, err, hcall, hst⟩ := step_o v s
  have HCALL := hid hcall
  have HST := hid hst
  obtain ⟨bp, op, cs, rfl, _, _, hrd, hcell⟩ := HP.out.at_ ESt.ok (k := 0) (by simp)
  obtain rfl : cs = [.bool s.list, .int .i64 s.i, .string s.key] := hrd
  have s0 := hcell 0 _ rfl
  have s1 := hcell 1 _ rfl
  have s2 := hcell 2 _ rfl
  have hz : ESt.size = 3 := rfl
  simp only [hz, Nat.add_zero, Nat.zero_mul] at s0 s1 s2
  have HSC := hid (And.intro s0 (And.intro s1 s2))
  obtain ⟨At, rt, t1⟩ := tail_fact (P := Tryd.prog) ESt.ok ty_st HP.out (lo := 1) (a := 1) rfl (by simp)
  have HTL := hid t1
  simp only [List.drop_one, List.tail_cons] at HTL
  have hp1 : ((s :: p).length : Int) ≠ 0 := by simp only [List.length_cons]; omega
  have hp0 : 0 < (s :: p).length := by simp only [List.length_cons]; omega
  generalize (s :: p).length = n at *
  clear hcell hcall hst hz t1
  obtain ⟨q0, q1, q2, q3, q4⟩ := blk5 HB1.out
  go_enter Tryd.func74, Tryd.ntmps74
  go_wp2_with fail
  rw [← e3]
  clear e3
  refine H.wp_region_frees [7, 8] [1, 2] [0, 3, 4, 5, 6, 7, 8, 9] [10] [11, 12]
   (H.specOf [(4, StepO (fun q => q < w.heap.size) z1 idx err), (9, BoxQ w3.heap.size)])
   (fun w' => Ext w3 w') ?_ (H.stableC_ext _) (by kernel_rfl) (by intro k hk; simp at hk; rcases hk with rfl | rfl <;> rfl) (by kernel_rfl) (Keep.drew (Keep.refl _ _)) ?_
  ·exact H.stable_cons (fun n m v w w' h he => h.ext he) (H.stable_cons (fun n m v w w' h he => h.ext he) H.stable_nil)
  iterate 2
   (try simp only [Act.put, sqa, sqb, sqc])
   refine H.pure_run rfl rfl ?_
   apply Exists.intro
   refine ⟨fun w' => ?_, ?_⟩
   ·go_simp
    rfl
  refine H.pure_nil ?_
  iterate 2
   (try simp only [Act.put, sqa, sqb, sqc])
   refine H.growP_run rfl rfl rfl ?_
   apply Exists.intro
   refine ⟨fun w' hC hK => ?_, ?_⟩
   ·have q0 := sqw hC q0
    have q1 := sqw hC q1
    have q2 := sqw hC q2
    have q3 := sqw hC q3
    have q4 := sqw hC q4
    have s0 := sqw hC s0
    have s1 := sqw hC s1
    have s2 := sqw hC s2
    go_simp
    rfl
  (try simp only [Act.put, sqa, sqb, sqc])
  refine H.growP_eff rfl rfl rfl (fun w' hC hK => ?_) (fun v4 nv4 mv4 hv4 => ?_)
  ·have hcall := HCALL.out w' _ _ (HV.out.ext hC)
   unfold H.growAt
   go_simp
   exact H.grow_call hcall
  obtain ⟨_, _, Ay1, cy1, Ay2, cy2, rfl, _⟩ := hv4.head
  iterate 4
   (try simp only [Act.put, sqa, sqb, sqc])
   refine H.growP_run rfl rfl rfl ?_
   apply Exists.intro
   refine ⟨fun w' hC hK => ?_, ?_⟩
   ·go_simp
    rfl
  (try simp only [Act.put, sqa, sqb, sqc])
  refine H.growP_eff rfl rfl rfl (fun w' hC hK => ?_) (fun v9 nv9 mv9 hv9 => ?_)
  ·unfold H.growAt
   go_simp
   exact ⟨(Keep.refl _ _).alloc _, hC.size, rfl, by simp, Blk.new _ _ _⟩
  obtain ⟨_, _, hn, rfl, hnm, _⟩ := hv9.head
  refine H.growP_nil fun w7 hC hK => ?_
  have hbox : BoxQ w3.heap.size nv9 mv9 (.pointer (some ⟨nv9, 0, none⟩)) w7 := (hK.1 (9, _) List.mem_cons_self).1
  have hout : StepO (fun q => q < w.heap.size) z1 idx err nv4 mv4 (.tuple #[.agg (vC z1 Ay1 cy1 Ay2 cy2), .int .i64 idx, .int .i64 err]) w7 := (hK.1 (4, _) (List.mem_cons_of_mem _ List.mem_cons_self)).1
  obtain ⟨bq0, bq1, bq2, bq3, bq4⟩ := blk5 hbox.2.2.2
  obtain ⟨bf0, bf1, bf2, bf3, bf4⟩ := sqf5 hbox.2.2.2
  have HF := hid (StepO.fill (fun q (hq : q < w.heap.size) => by omega) hC hbox hout)
  clear hbox hout hK hn hnm q0 q1 q2 q3 q4 s0 s1 s2 hv4 hv9 hC
  change wpList _ _ _ (_ :: []) _ _
  (try simp only [Act.put, sqa, sqb, sqc])
  go_wp2_with fail
  refine H.Then.normal ?_
  iterate 2
   (try simp only [Act.put, sqa, sqb, sqc])
   refine H.pure_run rfl rfl ?_
   apply Exists.intro
   refine ⟨fun w' => ?_, ?_⟩
   ·go_simp
    rfl
  refine H.pure_nil ?_
  refine NoPanic.normal ?_
  (try simp only [Act.put, sqa, sqb, sqc])
  obtain ⟨hE8, hB8, hV8⟩ := HF.out
  clear HF bq0 bq1 bq2 bq3 bq4 bf0 bf1 bf2 bf3 bf4
  change Exit.then _ _ Exit.normal _ (fillW w7 nv9 (U8 z1.kind) (.int .i64 z1.n) (.string z1.s) (.slice Ay1 z1.l.length cy1) (.slice Ay2 z1.o.length cy2))
  generalize fillW w7 nv9 (U8 z1.kind) (.int .i64 z1.n) (.string z1.s) (.slice Ay1 z1.l.length cy1) (.slice Ay2 z1.o.length cy2) = w8 at *
  have hzz := hE8.size
  replace HE := hid (HE.out.ext hE8)
  replace HB1 := hid (HB1.out.keep hE8 id)
  replace HB2 := hid (HB2.out.keep hE8 id)
  replace HB3 := hid (HB3.out.keep hE8 id)
  replace HV := hid (HV.out.ext hE8)
  replace HX := hid (HX.out.ext hE8)
  replace HTL := hid (HTL.out.ext ESt.ok hE8)
  replace HSC := hid (And.intro ((hE8.cell (lt_of_cell HSC.out.1) id).trans HSC.out.1) (And.intro ((hE8.cell (lt_of_cell HSC.out.2.1) id).trans HSC.out.2.1) ((hE8.cell (lt_of_cell HSC.out.2.2) id).trans HSC.out.2.2)))
  have HB8 := hid hB8
  have HV8 := hid hV8
  clear hE8 hB8 hV8 HP
  by_cases herr : err = 0
  ·skip
   obtain ⟨loc, hl1, hl2, hl3⟩ := (put_step (z := z1) (x := x) (p := p) HST.out).2 herr
   have herrX : (err != 0) = false := by simp [herr]
   clear herr
   obtain ⟨z, err2, hcall2, hpt⟩ := rput_o z1 p x
   have HPT := hid hpt
   have HCALL := hid hcall2
   have HLOC := hid (And.intro hl1 (And.intro hl2 hl3))
   have hsz1 : z1.size ≤ 1000000 := Nat.le_trans (child_size hl3) HSZ.out.1
   clear hcall2 hpt hl1 hl2 hl3
   obtain ⟨q0, q1, q2, q3, q4⟩ := blk5 HB8.out
   obtain ⟨x0, x1, x2, x3, x4⟩ := blk5 HB2.out
   go_wp2_with fail
   refine H.wp_region_free 7 [1, 2] [0, 3, 4, 5, 6, 7, 8] [9] [10]
    (H.specOf [(4, OutEQ w8.heap.size z err2), (8, BoxQ w8.heap.size)])
    (fun w' => Ext w8 w') ?_ (H.stableC_ext _) (by kernel_rfl) rfl (by kernel_rfl) (Keep.drew (Keep.refl _ _)) ?_
   ·exact H.stable_cons (fun n m v w w' h he => h.ext he) (H.stable_cons (fun n m v w w' h he => h.ext he) H.stable_nil)
   iterate 2
    (try simp only [Act.put, sqa, sqb, sqc])
    refine H.pure_run rfl rfl ?_
    apply Exists.intro
    refine ⟨fun w' => ?_, ?_⟩
    ·go_simp
     rfl
   refine H.pure_nil ?_
   iterate 2
    (try simp only [Act.put, sqa, sqb, sqc])
    refine H.growP_run rfl rfl rfl ?_
    apply Exists.intro
    refine ⟨fun w' hC hK => ?_, ?_⟩
    ·have q0 := sqw hC q0
     have q1 := sqw hC q1
     have q2 := sqw hC q2
     have q3 := sqw hC q3
     have q4 := sqw hC q4
     have x0 := sqw hC x0
     have x1 := sqw hC x1
     have x2 := sqw hC x2
     have x3 := sqw hC x3
     have x4 := sqw hC x4
     go_simp
     rfl
   (try simp only [Act.put, sqa, sqb, sqc])
   refine H.growP_eff rfl rfl rfl (fun w' hC hK => ?_) (fun v4 nv4 mv4 hv4 => ?_)
   ·have hcall := (HIH.out w' _ _ _ z1 x _ _ _ (HV8.out.ext hC) (HX.out.ext hC) (HTL.out.ext ESt.ok hC) hsz1 HSZ.out.2).mono fun e w'' h => (by obtain ⟨u, h1, h2, h3⟩ := HCALL.out _ _ _ h; exact ⟨u, h1, h2, hC.size, h3⟩ : ∃ u, e = .returned u ∧ Ext w' w'' ∧ OutEQ w8.heap.size z err2 w'.heap.size w''.heap.size u w'')
    unfold H.growAt
    go_simp
    exact H.grow_call hcall
   obtain ⟨_, _, _, Az1, cz1, Az2, cz2, rfl, _⟩ := hv4.head
   iterate 3
    (try simp only [Act.put, sqa, sqb, sqc])
    refine H.growP_run rfl rfl rfl ?_
    apply Exists.intro
    refine ⟨fun w' hC hK => ?_, ?_⟩
    ·go_simp
     rfl
   (try simp only [Act.put, sqa, sqb, sqc])
   refine H.growP_eff rfl rfl rfl (fun w' hC hK => ?_) (fun v8 nv8 mv8 hv8 => ?_)
   ·unfold H.growAt
    go_simp
    exact ⟨(Keep.refl _ _).alloc _, hC.size, rfl, by simp, Blk.new _ _ _⟩
   obtain ⟨_, _, hn, rfl, hnm, _⟩ := hv8.head
   refine H.growP_nil fun w17 hC hK => ?_
   have hbox : BoxQ w8.heap.size nv8 mv8 (.pointer (some ⟨nv8, 0, none⟩)) w17 := (hK.1 (8, _) List.mem_cons_self).1
   have houtq : OutEQ w8.heap.size z err2 nv4 mv4 (.tuple #[.agg (vC z Az1 cz1 Az2 cz2), .int .i64 err2]) w17 := (hK.1 (4, _) (List.mem_cons_of_mem _ List.mem_cons_self)).1
   have hap : mv8 ≤ nv4 ∨ mv4 ≤ nv8 := hK.2 (8, _) List.mem_cons_self (4, _) (List.mem_cons_of_mem _ List.mem_cons_self) (by simp)
   have hout := houtq.2
   have hn4 : w8.heap.size ≤ nv4 ∧ mv4 ≤ w17.heap.size := ⟨houtq.1, (hK.1 (4, _) (List.mem_cons_of_mem _ List.mem_cons_self)).2⟩
   obtain ⟨bq0, bq1, bq2, bq3, bq4⟩ := blk5 hbox.2.2.2
   obtain ⟨bf0, bf1, bf2, bf3, bf4⟩ := sqf5 hbox.2.2.2
   have HF := hid (OutE.fill hC hbox hout hap)
   clear hbox hout houtq hap hK hn hnm q0 q1 q2 q3 q4 x0 x1 x2 x3 x4 hv4 hv8 hC
   change wpList _ _ _ (_ :: []) _ _
   (try simp only [Act.put, sqa, sqb, sqc])
   go_wp2_with fail
   refine H.Then.normal ?_
   iterate 1
    (try simp only [Act.put, sqa, sqb, sqc])
    refine H.pure_run rfl rfl ?_
    apply Exists.intro
    refine ⟨fun w' => ?_, ?_⟩
    ·go_simp
     rfl
   refine H.pure_nil ?_
   refine NoPanic.normal ?_
   (try simp only [Act.put, sqa, sqb, sqc])
   obtain ⟨hE8, hB8, hV8⟩ := HF.out
   clear HF bq0 bq1 bq2 bq3 bq4 bf0 bf1 bf2 bf3 bf4
   have hzz2 : w17.heap.size ≤ (fillW w17 nv8 (U8 z.kind) (.int .i64 z.n) (.string z.s) (.slice Az1 z.l.length cz1) (.slice Az2 z.o.length cz2)).heap.size := (set5_keep w17 nv8 0 (U8 z.kind) (.int .i64 z.n) (.string z.s) (.slice Az1 z.l.length cz1) (.slice Az2 z.o.length cz2)).size
   change Exit.then _ _ Exit.normal _ (fillW w17 nv8 (U8 z.kind) (.int .i64 z.n) (.string z.s) (.slice Az1 z.l.length cz1) (.slice Az2 z.o.length cz2))
   generalize fillW w17 nv8 (U8 z.kind) (.int .i64 z.n) (.string z.s) (.slice Az1 z.l.length cz1) (.slice Az2 z.o.length cz2) = w9 at *
   have hzz3 := hE8.size
   have HVZ := hid (show VAt w9 (fun q => w.heap.size + 3 ≤ q ∧ q < w9.heap.size) (.agg (vC z Az1 cz1 Az2 cz2)) z from hV8.more fun q _ hq => by omega)
   replace HE := hid (HE.out.ext hE8)
   replace HB1 := hid (HB1.out.keep hE8 id)
   replace HB3 := hid (HB3.out.keep hE8 id)
   replace HV := hid (HV.out.ext hE8)
   replace HSC := hid ((hE8.cell (lt_of_cell HSC.out.1) id).trans HSC.out.1)
   have HBZ := hid hB8
   clear hE8 hB8 hV8 HB8 HV8 HTL HX HB2
   by_cases herr2 : err2 = 0
   ·skip
    have HPF := hid ((put_step2 HLOC.out.1 HLOC.out.2.2 HPT.out).2 herr2)
    have herrY : (err2 != 0) = false := by simp [herr2]
    clear herr2
    obtain ⟨q0, q1, q2, q3, q4⟩ := blk5 HB1.out
    go_wp2_with fail
    refine (rcopy_any _ v (Nat.le_refl _) HSZ.out.1 _ _ w9 HV.out).mono ?_
    rintro e w10 h
    obtain ⟨Av1, cv1, Av2, cv2, rfl, hrows, hE10⟩ := h.rows
    clear h q0 q1 q2 q3 q4
    obtain ⟨hl1, hl2, hl3⟩ := HLOC.out
    have hzz4 := hE10.size
    have hsc := HSC.out
    rcases loc_of hl1 with ⟨hsl, i, rfl⟩ | ⟨hsl, i, rfl⟩
    ·obtain rfl : idx = i := hl2
     have hi : idx < v.l.length := by rw [child_l] at hl3; exact (List.getElem?_eq_some_iff.1 hl3).1
     obtain ⟨g, cap, eg, hg1, hg2, hcap1, hcap2⟩ := hrows.l.form (by omega)
     injection eg with eg1 eg2 eg3
     clear eg2
     subst eg1 eg3
     have hcap9 : cv1 ≤ 9223372036854775807 := by unfold maxLen at hcap2; omega
     obtain ⟨cc, hrc, hcells⟩ := hrows.l.at_ EVal.ok hi
     generalize v.l[idx] = yy at hrc
     obtain ⟨D1, m1, d1, D2, m2, d2, rfl, hm1, hm2, hva9⟩ := EVal_cells hrc
     clear hm1 hm2 hva9
     have o0 := hcells 0 _ rfl
     have o1 := hcells 1 _ rfl
     have o2 := hcells 2 _ rfl
     have o3 := hcells 3 _ rfl
     have o4 := hcells 4 _ rfl
     have hz : EVal.size = 5 := rfl
     simp only [hz, Nat.add_zero] at o0 o1 o2 o3 o4
     have hput := hrows.putL (b := w.heap.size + 3) (by omega) hl3 (HVZ.out.ext hE10)
     have of0 := hrows.l.frozen (idx * 5)
     have of1 := hrows.l.frozen (idx * 5 + 1)
     have of2 := hrows.l.frozen (idx * 5 + 2)
     have of3 := hrows.l.frozen (idx * 5 + 3)
     have of4 := hrows.l.frozen (idx * 5 + 4)
     replace hsc := sqw hE10 hsc
     rw [hsl] at hsc
     clear hsl
     have hbpl := lt_of_cell hsc
     have hbz := HBZ.out.keep hE10 id
     have hbzl := hbz.lt
     obtain ⟨z0, z1', z2, z3, z4⟩ := blk5 hbz
     obtain ⟨hkp, _, _, hvf⟩ := hput
     simp only [put_kind, put_n, put_s] at hvf
     have hb10 := HB3.out.keep hE10 id
     have hb10l := hb10.lt
     have hne2 : w.heap.size + 2 ≠ g := by omega
     have hbr := hb10.keep hkp hne2
     obtain ⟨r0, r1, r2, r3, r4⟩ := blk5 hb10
     obtain ⟨f0, f1, f2, f3, f4⟩ := sqf5 hb10
     obtain ⟨hEw, t0, t1, t2, t3, t4⟩ := ret5 ((HE.out.ext hE10).trans hkp fun q hq e => by omega) (by omega) hbr (U8 v.kind) (.int .i64 v.n) (.string v.s) (.slice (some ⟨g, 0, none⟩) v.l.length cv1) (.slice Av2 v.o.length cv2)
     have hk2 := set5_keep (set5 w10 g (idx * 5) (U8 z.kind) (.int .i64 z.n) (.string z.s) (.slice Az1 z.l.length cz1) (.slice Az2 z.o.length cz2)) (w.heap.size + 2) 0 (U8 v.kind) (.int .i64 v.n) (.string v.s) (.slice (some ⟨g, 0, none⟩) v.l.length cv1) (.slice Av2 v.o.length cv2)
     have hA14 : Ext (fillW (set5 w10 g (idx * 5) (U8 z.kind) (.int .i64 z.n) (.string z.s) (.slice Az1 z.l.length cz1) (.slice Az2 z.o.length cz2)) (w.heap.size + 2) (U8 v.kind) (.int .i64 v.n) (.string v.s) (.slice (some ⟨g, 0, none⟩) v.l.length cv1) (.slice Av2 v.o.length cv2)) (((fillW (set5 w10 g (idx * 5) (U8 z.kind) (.int .i64 z.n) (.string z.s) (.slice Az1 z.l.length cz1) (.slice Az2 z.o.length cz2)) (w.heap.size + 2) (U8 v.kind) (.int .i64 v.n) (.string v.s) (.slice (some ⟨g, 0, none⟩) v.l.length cv1) (.slice Av2 v.o.length cv2))).alloc (.cells #[U8 v.kind, .int .i64 v.n, .string v.s, (.slice (some ⟨g, 0, none⟩) v.l.length cv1), (.slice Av2 v.o.length cv2)] TVAL)) := (Keep.refl _ _).alloc _
     have HT := hid (And.intro (hEw.ext hA14) (And.intro ((hA14.cell (lt_of_cell t0) id).trans t0) (And.intro ((hA14.cell (lt_of_cell t1) id).trans t1) (And.intro ((hA14.cell (lt_of_cell t2) id).trans t2) (And.intro ((hA14.cell (lt_of_cell t3) id).trans t3) ((hA14.cell (lt_of_cell t4) id).trans t4))))))
     have HVF := hid (show VAt (((fillW (set5 w10 g (idx * 5) (U8 z.kind) (.int .i64 z.n) (.string z.s) (.slice Az1 z.l.length cz1) (.slice Az2 z.o.length cz2)) (w.heap.size + 2) (U8 v.kind) (.int .i64 v.n) (.string v.s) (.slice (some ⟨g, 0, none⟩) v.l.length cv1) (.slice Av2 v.o.length cv2))).alloc (.cells #[U8 v.kind, .int .i64 v.n, .string v.s, (.slice (some ⟨g, 0, none⟩) v.l.length cv1), (.slice Av2 v.o.length cv2)] TVAL)) (fun q => w.heap.size ≤ q) (.agg #[U8 v.kind, .int .i64 v.n, .string v.s, (.slice (some ⟨g, 0, none⟩) v.l.length cv1), (.slice Av2 v.o.length cv2)]) (v.put (.l idx) z) from ((hvf.keep hk2 fun q hq e => by omega).more fun q _ hq => by omega).ext hA14)
     have hiX : (idx : Int) < v.l.length := by omega
     clear t0 t1 t2 t3 t4 hEw hA14 hk2 hvf hbr hkp hrows hE10 hb10 hbz hcells hrc hz hl1 hl3
     go_wp2
     obtain ⟨hE5, t0, t1, t2, t3, t4⟩ := HT.out
     change bodyPost _ _ _ _ _ (((fillW (set5 w10 g (idx * 5) (U8 z.kind) (.int .i64 z.n) (.string z.s) (.slice Az1 z.l.length cz1) (.slice Az2 z.o.length cz2)) (w.heap.size + 2) (U8 v.kind) (.int .i64 v.n) (.string v.s) (.slice (some ⟨g, 0, none⟩) v.l.length cv1) (.slice Av2 v.o.length cv2))).alloc (.cells #[U8 v.kind, .int .i64 v.n, .string v.s, (.slice (some ⟨g, 0, none⟩) v.l.length cv1), (.slice Av2 v.o.length cv2)] TVAL))
     generalize (((fillW (set5 w10 g (idx * 5) (U8 z.kind) (.int .i64 z.n) (.string z.s) (.slice Az1 z.l.length cz1) (.slice Az2 z.o.length cz2)) (w.heap.size + 2) (U8 v.kind) (.int .i64 v.n) (.string v.s) (.slice (some ⟨g, 0, none⟩) v.l.length cv1) (.slice Av2 v.o.length cv2))).alloc (.cells #[U8 v.kind, .int .i64 v.n, .string v.s, (.slice (some ⟨g, 0, none⟩) v.l.length cv1), (.slice Av2 v.o.length cv2)] TVAL)) = wz at *
     refine bodyPost_ret (v := .tuple #[.agg #[U8 v.kind, .int .i64 v.n, .string v.s, (.slice (some ⟨g, 0, none⟩) v.l.length cv1), (.slice Av2 v.o.length cv2)], .int .i64 0]) (by simp [results, Tryd.results74, go_sem, t0, t1, t2, t3, t4]) rfl ?_
     unfold RPutIs
     rw [HPF.out]
     exact ⟨⟨_, rfl, HVF.out⟩, hE5⟩
    ·obtain rfl : idx = i := hl2
     have hi : idx < v.o.length := by
      rw [child_o] at hl3
      cases hf : v.o[idx]? with
      | none => rw [hf] at hl3; cases hl3
      | some f => exact (List.getElem?_eq_some_iff.1 hf).1
     obtain ⟨g, cap, eg, hg1, hg2, hcap1, hcap2⟩ := hrows.o.form (by omega)
     injection eg with eg1 eg2 eg3
     clear eg2
     subst eg1 eg3
     have hcap9 : cv2 ≤ 9223372036854775807 := by unfold maxLen at hcap2; omega
     obtain ⟨cc, hrc, hcells⟩ := hrows.o.at_ EField.ok hi
     generalize v.o[idx] = yy at hrc
     obtain ⟨_, _, rfl, ⟨D1, d1, rfl⟩, ⟨D2, d2, rfl⟩, hva9⟩ := EField_cells hrc
     clear hva9
     have o0 := hcells 1 _ rfl
     have o1 := hcells 2 _ rfl
     have o2 := hcells 3 _ rfl
     have o3 := hcells 4 _ rfl
     have o4 := hcells 5 _ rfl
     have hz : EField.size = 6 := rfl
     simp only [hz, Nat.add_zero] at o0 o1 o2 o3 o4
     have hput := hrows.putO (b := w.heap.size + 3) (by omega) hl3 (HVZ.out.ext hE10)
     have of0 := hrows.o.frozen (idx * 6 + 1)
     have of1 := hrows.o.frozen (idx * 6 + 2)
     have of2 := hrows.o.frozen (idx * 6 + 3)
     have of3 := hrows.o.frozen (idx * 6 + 4)
     have of4 := hrows.o.frozen (idx * 6 + 5)
     replace hsc := sqw hE10 hsc
     rw [hsl] at hsc
     clear hsl
     have hbpl := lt_of_cell hsc
     have hbz := HBZ.out.keep hE10 id
     have hbzl := hbz.lt
     obtain ⟨z0, z1', z2, z3, z4⟩ := blk5 hbz
     obtain ⟨hkp, _, _, hvf⟩ := hput
     simp only [put_kind, put_n, put_s] at hvf
     have hb10 := HB3.out.keep hE10 id
     have hb10l := hb10.lt
     have hne2 : w.heap.size + 2 ≠ g := by omega
     have hbr := hb10.keep hkp hne2
     obtain ⟨r0, r1, r2, r3, r4⟩ := blk5 hb10
     obtain ⟨f0, f1, f2, f3, f4⟩ := sqf5 hb10
     obtain ⟨hEw, t0, t1, t2, t3, t4⟩ := ret5 ((HE.out.ext hE10).trans hkp fun q hq e => by omega) (by omega) hbr (U8 v.kind) (.int .i64 v.n) (.string v.s) (.slice Av1 v.l.length cv1) (.slice (some ⟨g, 0, none⟩) v.o.length cv2)
     have hk2 := set5_keep (set5 w10 g (idx * 6 + 1) (U8 z.kind) (.int .i64 z.n) (.string z.s) (.slice Az1 z.l.length cz1) (.slice Az2 z.o.length cz2)) (w.heap.size + 2) 0 (U8 v.kind) (.int .i64 v.n) (.string v.s) (.slice Av1 v.l.length cv1) (.slice (some ⟨g, 0, none⟩) v.o.length cv2)
     have hA14 : Ext (fillW (set5 w10 g (idx * 6 + 1) (U8 z.kind) (.int .i64 z.n) (.string z.s) (.slice Az1 z.l.length cz1) (.slice Az2 z.o.length cz2)) (w.heap.size + 2) (U8 v.kind) (.int .i64 v.n) (.string v.s) (.slice Av1 v.l.length cv1) (.slice (some ⟨g, 0, none⟩) v.o.length cv2)) (((fillW (set5 w10 g (idx * 6 + 1) (U8 z.kind) (.int .i64 z.n) (.string z.s) (.slice Az1 z.l.length cz1) (.slice Az2 z.o.length cz2)) (w.heap.size + 2) (U8 v.kind) (.int .i64 v.n) (.string v.s) (.slice Av1 v.l.length cv1) (.slice (some ⟨g, 0, none⟩) v.o.length cv2))).alloc (.cells #[U8 v.kind, .int .i64 v.n, .string v.s, (.slice Av1 v.l.length cv1), (.slice (some ⟨g, 0, none⟩) v.o.length cv2)] TVAL)) := (Keep.refl _ _).alloc _
     have HT := hid (And.intro (hEw.ext hA14) (And.intro ((hA14.cell (lt_of_cell t0) id).trans t0) (And.intro ((hA14.cell (lt_of_cell t1) id).trans t1) (And.intro ((hA14.cell (lt_of_cell t2) id).trans t2) (And.intro ((hA14.cell (lt_of_cell t3) id).trans t3) ((hA14.cell (lt_of_cell t4) id).trans t4))))))
     have HVF := hid (show VAt (((fillW (set5 w10 g (idx * 6 + 1) (U8 z.kind) (.int .i64 z.n) (.string z.s) (.slice Az1 z.l.length cz1) (.slice Az2 z.o.length cz2)) (w.heap.size + 2) (U8 v.kind) (.int .i64 v.n) (.string v.s) (.slice Av1 v.l.length cv1) (.slice (some ⟨g, 0, none⟩) v.o.length cv2))).alloc (.cells #[U8 v.kind, .int .i64 v.n, .string v.s, (.slice Av1 v.l.length cv1), (.slice (some ⟨g, 0, none⟩) v.o.length cv2)] TVAL)) (fun q => w.heap.size ≤ q) (.agg #[U8 v.kind, .int .i64 v.n, .string v.s, (.slice Av1 v.l.length cv1), (.slice (some ⟨g, 0, none⟩) v.o.length cv2)]) (v.put (.o idx) z) from ((hvf.keep hk2 fun q hq e => by omega).more fun q _ hq => by omega).ext hA14)
     have hiX : (idx : Int) < v.o.length := by omega
     clear t0 t1 t2 t3 t4 hEw hA14 hk2 hvf hbr hkp hrows hE10 hb10 hbz hcells hrc hz hl1 hl3
     go_wp2
     obtain ⟨hE5, t0, t1, t2, t3, t4⟩ := HT.out
     change bodyPost _ _ _ _ _ (((fillW (set5 w10 g (idx * 6 + 1) (U8 z.kind) (.int .i64 z.n) (.string z.s) (.slice Az1 z.l.length cz1) (.slice Az2 z.o.length cz2)) (w.heap.size + 2) (U8 v.kind) (.int .i64 v.n) (.string v.s) (.slice Av1 v.l.length cv1) (.slice (some ⟨g, 0, none⟩) v.o.length cv2))).alloc (.cells #[U8 v.kind, .int .i64 v.n, .string v.s, (.slice Av1 v.l.length cv1), (.slice (some ⟨g, 0, none⟩) v.o.length cv2)] TVAL))
     generalize (((fillW (set5 w10 g (idx * 6 + 1) (U8 z.kind) (.int .i64 z.n) (.string z.s) (.slice Az1 z.l.length cz1) (.slice Az2 z.o.length cz2)) (w.heap.size + 2) (U8 v.kind) (.int .i64 v.n) (.string v.s) (.slice Av1 v.l.length cv1) (.slice (some ⟨g, 0, none⟩) v.o.length cv2))).alloc (.cells #[U8 v.kind, .int .i64 v.n, .string v.s, (.slice Av1 v.l.length cv1), (.slice (some ⟨g, 0, none⟩) v.o.length cv2)] TVAL)) = wz at *
     refine bodyPost_ret (v := .tuple #[.agg #[U8 v.kind, .int .i64 v.n, .string v.s, (.slice Av1 v.l.length cv1), (.slice (some ⟨g, 0, none⟩) v.o.length cv2)], .int .i64 0]) (by simp [results, Tryd.results74, go_sem, t0, t1, t2, t3, t4]) rfl ?_
     unfold RPutIs
     rw [HPF.out]
     exact ⟨⟨_, rfl, HVF.out⟩, hE5⟩
   ·skip
    have HPF := hid ((put_step2 HLOC.out.1 HLOC.out.2.2 HPT.out).1 herr2)
    have herrY : (err2 != 0) = true := by simpa using herr2
    clear herr2
    obtain ⟨r0, r1, r2, r3, r4⟩ := blk5 HB3.out
    obtain ⟨f0, f1, f2, f3, f4⟩ := sqf5 ((HB3.out))
    have HT := hid (ret5 HE.out (by omega) HB3.out (.int .u8 0) (.int .i64 0) (.string ⟨#[]⟩) (.slice none 0 0) (.slice none 0 0))
    go_wp2
    obtain ⟨hE5, t0, t1, t2, t3, t4⟩ := HT.out
    change bodyPost _ _ _ _ _ (fillW w9 (w.heap.size + 2) (.int .u8 0) (.int .i64 0) (.string ⟨#[]⟩) (.slice none 0 0) (.slice none 0 0))
    generalize fillW w9 (w.heap.size + 2) (.int .u8 0) (.int .i64 0) (.string ⟨#[]⟩) (.slice none 0 0) (.slice none 0 0) = wz at *
    refine bodyPost_ret (v := .tuple #[ZVAL, .int .i64 err2]) (by simp [results, Tryd.results74, go_sem, t0, t1, t2, t3, t4]) rfl ?_
    obtain ⟨h1, h2⟩ := HPF.out
    unfold RPutIs
    rw [h1, h2]
    exact ⟨rfl, hE5⟩
  ·skip
   have HPF := hid ((put_step (z := z1) (x := x) (p := p) HST.out).1 herr)
   have herrX : (err != 0) = true := by simpa using herr
   clear herr
   obtain ⟨r0, r1, r2, r3, r4⟩ := blk5 HB3.out
   obtain ⟨f0, f1, f2, f3, f4⟩ := sqf5 ((HB3.out))
   have HT := hid (ret5 HE.out (by omega) HB3.out (.int .u8 0) (.int .i64 0) (.string ⟨#[]⟩) (.slice none 0 0) (.slice none 0 0))
   go_wp2
   obtain ⟨hE5, t0, t1, t2, t3, t4⟩ := HT.out
   change bodyPost _ _ _ _ _ (fillW w8 (w.heap.size + 2) (.int .u8 0) (.int .i64 0) (.string ⟨#[]⟩) (.slice none 0 0) (.slice none 0 0))
   generalize fillW w8 (w.heap.size + 2) (.int .u8 0) (.int .i64 0) (.string ⟨#[]⟩) (.slice none 0 0) (.slice none 0 0) = wz at *
   refine bodyPost_ret (v := .tuple #[ZVAL, .int .i64 err]) (by simp [results, Tryd.results74, go_sem, t0, t1, t2, t3, t4]) rfl ?_
   obtain ⟨h1, h2⟩ := HPF.out
   unfold RPutIs
   rw [h1, h2]
   exact ⟨rfl, hE5⟩
end Go.Proofs.YtggkidnlmaindaaDoor
