/- RefPut: laid together. -/
import Derived.Test.YtioplgfopillnaaApB22
/- RefPutA, RefPut in one. -/
set_option linter.unusedSimpArgs false
set_option linter.unusedVariables false
/- What stands in a copy overwritten. -/
namespace Go.Proofs.Ytioplgfopillnaa
open Go.RowKit
set_option linter.unusedVariables false
theorem own_cells2 {α : Type} {E : El α} {w : World} {base : Nat} {T : TypeId} {S : BS} {g cap n : Nat} {xs : List α} (h : Own E w base T S (.slice (some ⟨g, 0, none⟩) n cap) xs) :
    ∃ cur, base ≤ g ∧ n = xs.length ∧ Blk w g T cur ∧ xs.length ≤ cap ∧ cap ≤ maxLen ∧ cur.size = cap * E.size ∧ Cells E w S (cur.toList.take (xs.length * E.size)) xs := by
  rcases h with ⟨h, _⟩ | ⟨g', cap', cur, e, h1, h2, h3, h4, h5, h6⟩
  · cases h
  · injection e with e1 e2 e3
    injection e1 with e1
    injection e1 with e1 _ _
    subst e1 e2 e3
    exact ⟨cur, h1, rfl, h2, h3, h4, h5, h6⟩
theorem take_mid {l m : List Value} {o k n : Nat} (hm : m.length = k) (ho : o + k ≤ n) (hn : n ≤ l.length) : (l.take o ++ m ++ l.drop (o + k)).take n = (l.take n).take o ++ (m ++ (l.take n).drop (o + k)) := by
  have h1 : (l.take o).length = o := by rw [List.length_take]; omega
  rw [List.append_assoc, List.take_append, List.take_of_length_le (l := l.take o) (by omega), List.take_append, List.take_of_length_le (l := m) (by omega), List.drop_take, List.take_take, Nat.min_eq_left (by omega), h1, hm,
    show n - o - k = n - (o + k) from by omega]
theorem own_set {α : Type} {E : El α} (hE : E.Ok) {w w' : World} {base : Nat} {T : TypeId} {S S2 : BS} {g cap i : Nat} {xs : List α} {m : List Value} {x : α} {cur cur' : Array Value} (hc : Cells E w S (cur.toList.take (xs.length * E.size)) xs) (hbg : base ≤ g) (hcap : xs.length ≤ cap) (hcm : cap ≤ maxLen) (hsz : cur.size = cap * E.size)
    (hi : i < xs.length) (hk : Keep (· = g) w w') (hb' : Blk w' g T cur') (hl' : cur'.toList = cur.toList.take (i * E.size) ++ m ++ cur.toList.drop (i * E.size + E.size)) (hx : E.rd w' S2 m x) (hS : ¬ S g) :
    Own E w' base T (fun q => S q ∨ S2 q) (.slice (some ⟨g, 0, none⟩) xs.length cap) (xs.set i x) := by
  have hml := hE.len hx
  obtain ⟨n, hn⟩ : ∃ n, n = xs.length := ⟨_, rfl⟩
  rw [← hn] at hc hcap hi ⊢
  have h1 := (hc.split hE i (by omega)).1
  have h2 := (hc.split hE (i + 1) (by omega)).2
  have e1 : (i + 1) * E.size = i * E.size + E.size := Nat.succ_mul i _
  have e2 : (i + 1) * E.size ≤ n * E.size := Nat.mul_le_mul_right _ (by omega)
  have e3 : n * E.size ≤ cap * E.size := Nat.mul_le_mul_right _ hcap
  have hlen : cur.toList.length = cap * E.size := by simpa using hsz
  refine .inr ⟨g, cap, cur', by rw [List.length_set, ← hn], hbg, hb', by rw [List.length_set]; omega, hcm, ?_, ?_⟩
  · have := congrArg List.length hl'
    rw [List.length_append, List.length_append, List.length_take, List.length_drop, hml, hlen] at this
    have h4 : cur'.toList.length = cur'.size := by simp
    omega
  rw [List.length_set, hl', List.set_eq_take_append_cons_drop, if_pos (by omega)]
  have key := take_mid (l := cur.toList) (m := m) (o := i * E.size) (k := E.size) (n := n * E.size) hml (by omega) (by omega)
  rw [← hn, key, ← e1]
  exact ((h1.keep hE hk fun k hk e => hS (e ▸ hk)).more hE fun _ _ h => .inl h).append (Cells.append (xs := [x]) (Cells.single (hE.more hx fun _ _ h => .inr h)) ((h2.keep hE hk fun k hk e => hS (e ▸ hk)).more hE fun _ _ h => .inl h))

/-- What is known of a copy: its rows. -/
structure CopyRows (w0 : Nat) (w : World) (v : V) (lv ov : Value) : Prop where
  l : Own EVal w w0 TVAL (fun q => w0 ≤ q ∧ lv.ownBlock ≠ some q ∧ ov.ownBlock ≠ some q) lv v.l
  o : Own EField w w0 TFIELD (fun q => w0 ≤ q ∧ lv.ownBlock ≠ some q ∧ ov.ownBlock ≠ some q) ov v.o
  ne : ∀ g, lv.ownBlock = some g → ov.ownBlock ≠ some g
theorem RCopyIs.rows {w w' : World} {v : V} {e : Ending} (h : RCopyIs w v e w') : ∃ A c A' c', e = .returned (.agg #[U8 v.kind, .int .i64 v.n, .string v.s, .slice A v.l.length c, .slice A' v.o.length c']) ∧ CopyRows w.heap.size w' v (.slice A v.l.length c) (.slice A' v.o.length c') ∧ Ext w w' := by
  obtain ⟨lv, ov, rfl, h1, h2, h3, h4⟩ := h
  obtain ⟨A, c, rfl, _⟩ := h1.shape
  obtain ⟨A', c', rfl, _⟩ := h2.shape
  exact ⟨A, c, A', c', rfl, ⟨h1.more EVal.ok fun q _ h => ⟨h.1, h.2.2.1, h.2.2.2⟩, h2.more EField.ok fun q _ h => ⟨h.1, h.2.2.1, h.2.2.2⟩, h3⟩, h4⟩
theorem CopyRows.ext {w0 : Nat} {w w' : World} {v : V} {lv ov : Value} (h : CopyRows w0 w v lv ov) (he : Ext w w') : CopyRows w0 w' v lv ov := ⟨h.l.ext EVal.ok he, h.o.ext EField.ok he, h.ne⟩
/-- What a store into a copy leaves. -/
def PutTo (w0 b : Nat) (w w' : World) (g : Nat) (y : V) (lv ov : Value) : Prop := Keep (· = g) w w' ∧ w0 ≤ g ∧ g < w.heap.size ∧ VAt w' (fun q => b ≤ q) (.agg #[U8 y.kind, .int .i64 y.n, .string y.s, lv, ov]) y
theorem CopyRows.putL {w0 b : Nat} {w : World} {v z y : V} {g cap k : Nat} {ov : Value} {a0 a1 a2 a3 a4 : Value} (h : CopyRows w0 w v (.slice (some ⟨g, 0, none⟩) v.l.length cap) ov) (hb : b ≤ w0) (hk : v.child? (.l k) = some y)
    (hz : VAt w (fun q => b ≤ q ∧ q < w0) (.agg #[a0, a1, a2, a3, a4]) z) : PutTo w0 b w (set5 w g (k * 5) a0 a1 a2 a3 a4) g (v.put (.l k) z) (.slice (some ⟨g, 0, none⟩) v.l.length cap) ov := by
  rw [child_l] at hk
  have hi := (List.getElem?_eq_some_iff.1 hk).1
  obtain ⟨cur, hbg, _, hblk, hcap, hcm, hsz, hc⟩ := own_cells2 h.l
  have e5 : EVal.size = 5 := rfl
  have e6 : (k + 1) * 5 ≤ cap * 5 := Nat.mul_le_mul_right _ (by omega)
  rw [e5] at hsz
  obtain ⟨cur', hb', hl'⟩ := set5_blk hblk (k * 5) a0 a1 a2 a3 a4 (by omega)
  have hkk := set5_keep w g (k * 5) a0 a1 a2 a3 a4
  have hl2 := own_set EVal.ok hc hbg hcap hcm hsz hi hkk hb' hl' (S2 := fun q => b ≤ q ∧ q < w0) (EVal.ok.keep hz.rd hkk fun q hq e => by omega) (fun hS => hS.2.1 rfl)
  have ho2 := h.o.keep EField.ok hkk (fun q hq e => hq.2.1 (by subst e; rfl)) (fun q hq e => h.ne g rfl (by subst e; exact hq))
  refine ⟨hkk, hbg, hblk.lt, ?_⟩
  obtain ⟨p1, p2⟩ := put_l v k z
  rw [put_kind, put_n, put_s]
  refine ⟨_, _, by rw [put_kind, put_n, put_s], ?_, ?_⟩
  · rw [p1]
    refine (hl2.sl EVal.ok).more EVal.ok fun q _ hq => ?_
    rcases hq with (hq | hq) | hq
    · omega
    · omega
    · obtain rfl : g = q := by simpa [Value.ownBlock] using hq
      omega
  · rw [p2]
    refine (ho2.sl EField.ok).more EField.ok fun q _ hq => ?_
    rcases hq with hq | hq
    · omega
    · have := (h.o.lt hq).1; omega
theorem CopyRows.putO {w0 b : Nat} {w : World} {v z y : V} {g cap k : Nat} {lv : Value} {a0 a1 a2 a3 a4 : Value} (h : CopyRows w0 w v lv (.slice (some ⟨g, 0, none⟩) v.o.length cap)) (hb : b ≤ w0) (hk : v.child? (.o k) = some y)
    (hz : VAt w (fun q => b ≤ q ∧ q < w0) (.agg #[a0, a1, a2, a3, a4]) z) : PutTo w0 b w (set5 w g (k * 6 + 1) a0 a1 a2 a3 a4) g (v.put (.o k) z) lv (.slice (some ⟨g, 0, none⟩) v.o.length cap) := by
  rw [child_o] at hk
  obtain ⟨f, hf⟩ : ∃ f, v.o[k]? = some f := by
    cases hf : v.o[k]? with
    | none => rw [hf] at hk; cases hk
    | some f => exact ⟨f, rfl⟩
  obtain ⟨hi, hfe⟩ := List.getElem?_eq_some_iff.1 hf
  obtain ⟨cur, hbg, _, hblk, hcap, hcm, hsz, hc⟩ := own_cells2 h.o
  have e5 : EField.size = 6 := rfl
  have e6 : (k + 1) * 6 ≤ cap * 6 := Nat.mul_le_mul_right _ (by omega)
  have e7 : (k + 1) * 6 ≤ v.o.length * 6 := Nat.mul_le_mul_right _ (by omega)
  rw [e5] at hsz
  obtain ⟨cur', hb', hl'⟩ := set5_blk hblk (k * 6 + 1) a0 a1 a2 a3 a4 (by omega)
  have hkk := set5_keep w g (k * 6 + 1) a0 a1 a2 a3 a4
  have hkey : cur.toList[k * 6]? = some (.string f.key) := by
    obtain ⟨c0, hr, hg⟩ := hc.get EField.ok hi
    rw [hfe] at hr
    obtain ⟨c1, rfl, _⟩ := rdF_iff.1 hr
    have := hg 0 _ rfl
    rw [e5, List.getElem?_take] at this
    simpa [show k * 6 < v.o.length * 6 from by omega] using this
  have hl2' : cur'.toList = cur.toList.take (k * EField.size) ++ [.string f.key, a0, a1, a2, a3, a4] ++ cur.toList.drop (k * EField.size + EField.size) := by
    rw [hl', e5, List.take_add_one, hkey]
    simp
  have hl2 := own_set EField.ok hc hbg hcap hcm hsz hi hkk hb' hl2' (x := .mk f.key z) (S2 := fun q => b ≤ q ∧ q < w0) (rdF_iff.2 ⟨_, rfl, EVal.ok.keep hz.rd hkk fun q hq e => by omega⟩) (fun hS => hS.2.2 rfl)
  have ho2 := h.l.keep EVal.ok hkk (fun q hq e => hq.2.2 (by subst e; rfl)) (fun q hq e => h.ne q hq (by subst e; rfl))
  refine ⟨hkk, hbg, hblk.lt, ?_⟩
  obtain ⟨p1, p2⟩ := put_o v k z
  rw [hf] at p2
  simp only at p2
  rw [put_kind, put_n, put_s]
  refine ⟨_, _, by rw [put_kind, put_n, put_s], ?_, ?_⟩
  · rw [p1]
    refine (ho2.sl EVal.ok).more EVal.ok fun q _ hq => ?_
    rcases hq with hq | hq
    · omega
    · have := (h.l.lt hq).1; omega
  · rw [p2]
    refine (hl2.sl EField.ok).more EField.ok fun q _ hq => ?_
    rcases hq with (hq | hq) | hq
    · omega
    · omega
    · obtain rfl : g = q := by simpa [Value.ownBlock] using hq
      omega
end Go.Proofs.Ytioplgfopillnaa

/- The reference's Put, by contract. -/
namespace Go.Proofs.Ytioplgfopillnaa
open Go.RowKit
set_option linter.unusedVariables false
/-- What a call that hands back a value and a number leaves. -/
def OutE (y : V) (err : Int) (n m : Nat) (v : Value) (w : World) : Prop := ∃ A c A' c', v = .tuple #[.agg #[U8 y.kind, .int .i64 y.n, .string y.s, .slice A y.l.length c, .slice A' y.o.length c'], .int .i64 err] ∧ VAt w (fun q => n ≤ q ∧ q < m) (.agg #[U8 y.kind, .int .i64 y.n, .string y.s, .slice A y.l.length c, .slice A' y.o.length c']) y
theorem OutE.ext {y : V} {err : Int} {n m : Nat} {v : Value} {w w' : World} (h : OutE y err n m v w) (he : Ext w w') : OutE y err n m v w' := by
  obtain ⟨A, c, A', c', e, h⟩ := h
  exact ⟨A, c, A', c', e, h.ext he⟩
def OutEQ (k : Nat) (y : V) (err : Int) (n m : Nat) (v : Value) (w : World) : Prop := k ≤ n ∧ OutE y err n m v w
theorem OutEQ.ext {k : Nat} {y : V} {err : Int} {n m : Nat} {v : Value} {w w' : World} (h : OutEQ k y err n m v w) (he : Ext w w') : OutEQ k y err n m v w' := ⟨h.1, h.2.ext he⟩
theorem OutE.fill {y : V} {err e' : Int} {w0 w : World} {n m g k : Nat} {a0 a1 a2 a3 a4 : Value} (hE : Ext w0 w) (hb : BoxQ w0.heap.size g k (.pointer (some ⟨g, 0, none⟩)) w) (hv : OutE y err n m (.tuple #[.agg #[a0, a1, a2, a3, a4], .int .i64 e']) w) (hap : k ≤ n ∨ m ≤ g) :
    Ext w0 (fillW w g a0 a1 a2 a3 a4) ∧ Blk (fillW w g a0 a1 a2 a3 a4) g TVAL #[a0, a1, a2, a3, a4] ∧ VAt (fillW w g a0 a1 a2 a3 a4) (fun q => n ≤ q ∧ q < m) (.agg #[a0, a1, a2, a3, a4]) y := by
  obtain ⟨A, c, A', c', h4, h5⟩ := hv
  simp only [Value.tuple.injEq, Array.mk.injEq, List.cons.injEq, Value.agg.injEq, and_true] at h4
  obtain ⟨⟨rfl, rfl, rfl, rfl, rfl⟩, _⟩ := h4
  have hk : Keep (· = g) w (fillW w g (U8 y.kind) (.int .i64 y.n) (.string y.s) (.slice A y.l.length c) (.slice A' y.o.length c')) := set5_keep w g 0 _ _ _ _ _
  exact ⟨hE.trans hk fun q hq e => by have := hb.1; omega, set5_to hb.2.2.2 rfl _ _ _ _ _, h5.keep hk fun q hq e => by have := hb.2.2.1; omega⟩

/-- What the reference's Put hands back. -/
def RPutIs (v : V) (p : List St) (x : V) (w : World) (e : Ending) (w' : World) : Prop := (match putV v p x with
  | none => e = .returned (.tuple #[ZVAL, .int .i64 30])
  | some y => ∃ u, e = .returned (.tuple #[u, .int .i64 0]) ∧ VAt w' (fun q => w.heap.size ≤ q) u y) ∧ Ext w w'
def PutTwo (v : V) (p : List St) (x z : V) (err : Int) : Prop := (putV v p x = none ∧ err = 30) ∨ (putV v p x = some z ∧ err = 0)
theorem rput_o (v : V) (p : List St) (x : V) : ∃ (z : V) (err : Int), (∀ (w w' : World) (e : Ending), RPutIs v p x w e w' → ∃ u, e = .returned u ∧ Ext w w' ∧ OutE z err w.heap.size w'.heap.size u w') ∧ PutTwo v p x z err := by
  cases hs : putV v p x with
  | none =>
    refine ⟨.mk 0 0 ⟨#[]⟩ [] [], 30, fun w w' e h => ?_, .inl ⟨hs, rfl⟩⟩
    obtain ⟨h1, hE⟩ := h
    rw [hs] at h1
    exact ⟨_, h1, hE, none, 0, none, 0, rfl, _, _, rfl, Sl.nil _ _, Sl.nil _ _⟩
  | some z =>
    refine ⟨z, 0, fun w w' e h => ?_, .inr ⟨hs, rfl⟩⟩
    obtain ⟨h1, hE⟩ := h
    rw [hs] at h1
    obtain ⟨u, rfl, hva⟩ := h1
    obtain ⟨lv, ov, rfl, hl, ho⟩ := hva.cut
    obtain ⟨A, c, A', c', e, hva⟩ := (show VAt w' (fun q => w.heap.size ≤ q ∧ q < w'.heap.size) (.agg #[U8 z.kind, .int .i64 z.n, .string z.s, lv, ov]) z from ⟨_, _, rfl, hl, ho⟩).form
    rw [e] at hva ⊢
    exact ⟨_, rfl, hE, A, c, A', c', rfl, hva⟩
/-- What Put does, step by step. -/
theorem put_step {v z1 z x : V} {s : St} {p : List St} {idx : Nat} {err : Int} (hs : StepTo v s z1 idx err) : (err ≠ 0 → putV v (s :: p) x = none ∧ err = 30) ∧ (err = 0 → ∃ loc, stepV v s = some loc ∧ idx = loc.idx ∧ v.child? loc = some z1) := by
  rcases hs with ⟨h1, rfl⟩ | ⟨loc, h1, h2, h3, rfl⟩
  · exact ⟨fun _ => ⟨by rw [putV, h1], rfl⟩, fun h => by cases h⟩
  · exact ⟨fun h => absurd rfl h, fun _ => ⟨loc, h1, h2, h3⟩⟩
theorem put_step2 {v z1 z x : V} {s : St} {p : List St} {loc : Loc} {err : Int} (h1 : stepV v s = some loc) (h2 : v.child? loc = some z1) (h : PutTwo z1 p x z err) : (err ≠ 0 → putV v (s :: p) x = none ∧ err = 30) ∧ (err = 0 → putV v (s :: p) x = some (v.put loc z)) := by
  rcases h with ⟨h3, rfl⟩ | ⟨h3, rfl⟩
  · exact ⟨fun _ => ⟨by simp only [putV, h1, h2, h3, Option.map_none], rfl⟩, fun h => by cases h⟩
  · exact ⟨fun h => absurd rfl h, fun _ => by simp only [putV, h1, h2, h3, Option.map_some]⟩
theorem loc_of {v : V} {s : St} {loc : Loc} (h : stepV v s = some loc) : (s.list = true ∧ ∃ i, loc = .l i) ∨ (s.list = false ∧ ∃ i, loc = .o i) := by
  cases hl : s.list with
  | true =>
    rw [stepV_l hl] at h
    split at h
    · injection h with h; exact .inl ⟨rfl, _, h.symm⟩
    · cases h
  | false =>
    rw [stepV_o hl] at h
    split at h
    · injection h with h; exact .inr ⟨rfl, _, h.symm⟩
    · cases h

end Go.Proofs.Ytioplgfopillnaa
