/- PathLaw, PathAtP, PathP: laid together. -/
import Derived.Test.YtioplgfopillnaaDoorMeB7
import Derived.Test.YtioplgfopillnaaDoorMeB9
import Derived.Test.YtioplgfopillnaaDoorMeB8
import Derived.Laws.IdiomCopy
set_option linter.unusedSimpArgs false
set_option linter.unusedVariables false
set_option maxHeartbeats 25600000
set_option maxRecDepth 20000
namespace Go.Proofs.YtioplgfopillnaaDoor
open Go.RowKit
theorem fieldL_keys : ∀ {o o' : List F}, o.map F.key = o'.map F.key → ∀ key, fieldL o key = fieldL o' key
 | [], [], _, _ => rfl
 | [], _ :: _, h, _ => by simp at h
 | _ :: _, [], h, _ => by simp at h
 | f :: fs, g :: gs, h, key => by
  simp only [List.map_cons, List.cons.injEq] at h
  have ih := fieldL_keys h.2 key
  unfold fieldL at ih ⊢
  rw [List.takeWhile_cons, List.takeWhile_cons, h.1]
  cases keyLt g.key key
  ·rfl
  ·simp only [if_true, List.length_cons, ih]
theorem fieldIs_keys {o o' : List F} (h : o.map F.key = o'.map F.key) (key : ByteArray) : fieldIs o key = fieldIs o' key := by
 have hl := fieldL_keys h key
 have hlen : o.length = o'.length := by have := congrArg List.length h; simpa using this
 by_cases hk : fieldL o key < o.length
 ·have hk' : fieldL o' key < o'.length := by omega
  rw [fieldIs_some hk rfl, fieldIs_some hk' rfl]
  have h1 : (o.map F.key)[fieldL o key]? = (o'.map F.key)[fieldL o' key]? := by rw [h, hl]
  simp only [List.getElem?_map, List.getElem?_eq_getElem hk, List.getElem?_eq_getElem hk', Option.map_some, Option.some.injEq] at h1
  rw [h1]
 ·rw [fieldIs_none (by have := fieldL_le o key; omega), fieldIs_none (by have := fieldL_le o' key; omega)]
theorem put_keys (o : List F) (j : Nat) (x : V) : (match o[j]? with | some f => o.set j (.mk f.key x) | none => o).map F.key = o.map F.key := by
 cases h : o[j]? with
 | none => rfl
 | some f =>
  simp only
  apply List.ext_getElem?
  intro i
  simp only [List.getElem?_map, List.getElem?_set]
  by_cases e : j = i
  ·subst e
   have hj := (List.getElem?_eq_some_iff.1 h).1
   rw [if_pos rfl, if_pos hj, h]
   rfl
  ·simp [e]
theorem put_kind (v : V) (loc : Loc) (x : V) : (v.put loc x).kind = v.kind := by cases v; cases loc <;> rfl
theorem put_n (v : V) (loc : Loc) (x : V) : (v.put loc x).n = v.n := by cases v; cases loc <;> rfl
theorem put_s (v : V) (loc : Loc) (x : V) : (v.put loc x).s = v.s := by cases v; cases loc <;> rfl
theorem put_l (v : V) (i : Nat) (x : V) : (v.put (.l i) x).l = v.l.set i x ∧ (v.put (.l i) x).o = v.o := by cases v; exact ⟨rfl, rfl⟩
theorem put_o (v : V) (j : Nat) (x : V) : (v.put (.o j) x).l = v.l ∧ (v.put (.o j) x).o = (match v.o[j]? with | some f => v.o.set j (.mk f.key x) | none => v.o) := by cases v; exact ⟨rfl, rfl⟩
theorem step_put (v : V) (loc : Loc) (x : V) (s : St) : stepV (v.put loc x) s = stepV v s := by
 cases loc with
 | l i =>
  unfold stepV
  rw [put_kind, (put_l v i x).1, (put_l v i x).2, List.length_set]
 | o j =>
  unfold stepV
  rw [put_kind, (put_o v j x).1, (put_o v j x).2, fieldIs_keys (put_keys _ _ _), fieldL_keys (put_keys _ _ _)]
theorem child_put {v y : V} {loc : Loc} (h : v.child? loc = some y) (x : V) : (v.put loc x).child? loc = some x := by
 cases loc with
 | l i =>
  rw [child_l] at h ⊢
  rw [(put_l v i x).1]
  have := (List.getElem?_eq_some_iff.1 h).1
  simp [this]
 | o j =>
  rw [child_o] at h ⊢
  cases hf : v.o[j]? with
  | none => rw [hf] at h; cases h
  | some f =>
   rw [(put_o v j x).2, hf]
   have := (List.getElem?_eq_some_iff.1 hf).1
   simp [this, F.v]
theorem child_put_ne {v : V} {loc loc' : Loc} (hne : loc ≠ loc') (x : V) : (v.put loc x).child? loc' = v.child? loc' := by
 cases loc with
 | l i =>
  cases loc' with
  | l i' =>
   rw [child_l, child_l, (put_l v i x).1, List.getElem?_set_ne (fun e => hne (by rw [e]))]
  | o j' => rw [child_o, child_o, (put_l v i x).2]
 | o j =>
  cases loc' with
  | l i' => rw [child_l, child_l, (put_o v j x).1]
  | o j' =>
   rw [child_o, child_o, (put_o v j x).2]
   cases hf : v.o[j]? with
   | none => rfl
   | some f => simp only; rw [List.getElem?_set_ne (fun e => hne (by rw [e]))]
theorem put_put (v : V) (loc : Loc) (x y : V) : (v.put loc x).put loc y = v.put loc y := by
 cases v with
 | mk k n s l o =>
  cases loc with
  | l i => simp [V.put]
  | o j =>
   cases hf : o[j]? with
   | none => simp [V.put, hf]
   | some f =>
    have := (List.getElem?_eq_some_iff.1 hf).1
    simp [V.put, hf, this, F.key]
theorem put_child {v y : V} {loc : Loc} (h : v.child? loc = some y) : v.put loc y = v := by
 cases v with
 | mk k n s l o =>
  cases loc with
  | l i =>
   rw [child_l] at h
   have h1 := (List.getElem?_eq_some_iff.1 h)
   simp only [V.put, V.mk.injEq, true_and, and_true]
   obtain ⟨h2, h3⟩ := h1
   have h3 : l[i] = y := h3
   rw [← h3]
   exact List.set_getElem_self _
  | o j =>
   rw [child_o] at h
   cases hf : (V.mk k n s l o).o[j]? with
   | none => rw [hf] at h; cases h
   | some f =>
    rw [hf] at h
    have hf : o[j]? = some f := hf
    obtain rfl : f.v = y := by simpa using h
    simp only [V.put, hf, V.mk.injEq, true_and]
    obtain ⟨h2, h3⟩ := List.getElem?_eq_some_iff.1 hf
    have : F.mk f.key f.v = o[j] := by rw [h3]; cases f; rfl
    rw [this]
    exact List.set_getElem_self _
theorem get_put : ∀ (p : List St) (v x w : V), putV v p x = some w → getV w p = some x
 | [], v, x, w, h => by simp only [putV, Option.some.injEq] at h; subst h; rfl
 | s :: p, v, x, w, h => by
  simp only [putV] at h
  cases h1 : stepV v s with
  | none => rw [h1] at h; cases h
  | some loc =>
   rw [h1] at h
   simp only at h
   cases h2 : v.child? loc with
   | none => rw [h2] at h; cases h
   | some y =>
    rw [h2] at h
    simp only at h
    cases h3 : putV y p x with
    | none => rw [h3] at h; cases h
    | some z =>
     rw [h3] at h
     simp only [Option.map_some, Option.some.injEq] at h
     subst h
     simp only [getV, step_put, h1, child_put h2]
     exact get_put p y x z h3
theorem put_back : ∀ (p : List St) (v x w old : V), putV v p x = some w → getV v p = some old → putV w p old = some v
 | [], v, x, w, old, h, hg => by simp only [putV, getV, Option.some.injEq] at h hg ⊢; exact hg.symm
 | s :: p, v, x, w, old, h, hg => by
  simp only [putV] at h
  simp only [getV] at hg
  cases h1 : stepV v s with
  | none => rw [h1] at h; cases h
  | some loc =>
   rw [h1] at h hg
   simp only at h hg
   cases h2 : v.child? loc with
   | none => rw [h2] at h; cases h
   | some y =>
    rw [h2] at h hg
    simp only at h hg
    cases h3 : putV y p x with
    | none => rw [h3] at h; cases h
    | some z =>
     rw [h3] at h
     simp only [Option.map_some, Option.some.injEq] at h
     subst h
     have ih := put_back p y x z old h3 hg
     simp only [putV, step_put, h1, child_put h2, ih, Option.map_some, Option.some.injEq]
     rw [put_put]
     exact put_child h2
theorem step_same {v : V} {s t : St} {loc : Loc} (hs : StOk s) (ht : StOk t) (h1 : stepV v s = some loc) (h2 : stepV v t = some loc) : s = t := by
 have key : ∀ {s : St}, StOk s → stepV v s = some loc → (∃ i, loc = .l i ∧ s = ⟨true, (i : Int), ⟨#[]⟩⟩) ∨ ∃ k, ∃ hk : k < v.o.length, loc = .o k ∧ s = ⟨false, 0, v.o[k].key⟩ := by
  intro s hs h
  obtain ⟨sl, si, sk⟩ := s
  rcases hs with ⟨rfl, rfl, h0⟩ | ⟨rfl, rfl⟩
  ·rw [stepV_l rfl] at h
   by_cases hc : v.kind = 4 ∧ 0 ≤ si ∧ si < v.l.length
   ·rw [if_pos hc] at h
    injection h with h
    refine .inl ⟨si.toNat, h.symm, ?_⟩
    have : ((si.toNat : Nat) : Int) = si := by omega
    rw [this]
   ·rw [if_neg hc] at h; cases h
  ·rw [stepV_o rfl] at h
   by_cases hc : v.kind = 5 ∧ fieldIs v.o sk = true
   ·rw [if_pos hc] at h
    injection h with h
    have hk := fieldIs_lt hc.2
    refine .inr ⟨fieldL v.o sk, hk, h.symm, ?_⟩
    have h3 := hc.2
    rw [fieldIs_some hk rfl] at h3
    have h4 : (v.o[fieldL v.o sk]).key = sk := key_eq (by simpa using h3)
    rw [h4]
   ·rw [if_neg hc] at h; cases h
 rcases key hs h1 with ⟨i, e1, e2⟩ | ⟨k, hk, e1, e2⟩
 ·rcases key ht h2 with ⟨i', e3, e4⟩ | ⟨k', hk', e3, e4⟩
  ·rw [e1] at e3; injection e3 with e3; subst e3; rw [e2, e4]
  ·rw [e1] at e3; cases e3
 ·rcases key ht h2 with ⟨i', e3, e4⟩ | ⟨k', hk', e3, e4⟩
  ·rw [e1] at e3; cases e3
  ·rw [e1] at e3; injection e3 with e3; subst e3; rw [e2, e4]
theorem V.sizes_set : ∀ (l : List V) (i : Nat) (x : V), V.sizes (l.set i x) ≤ V.sizes l + x.size
 | [], i, x => by simp [V.sizes]
 | v :: vs, 0, x => by simp only [List.set_cons_zero, V.sizes]; omega
 | v :: vs, i + 1, x => by simp only [List.set_cons_succ, V.sizes]; have := V.sizes_set vs i x; omega
theorem F.sizes_set : ∀ (l : List F) (i : Nat) (k : ByteArray) (x : V), F.sizes (l.set i (.mk k x)) ≤ F.sizes l + x.size
 | [], i, k, x => by simp [F.sizes]
 | v :: vs, 0, k, x => by simp only [List.set_cons_zero, F.sizes, F.size]; omega
 | v :: vs, i + 1, k, x => by simp only [List.set_cons_succ, F.sizes]; have := F.sizes_set vs i k x; omega
theorem V.sizes_setm : ∀ (l : List V) (i : Nat) (x y : V), l[i]? = some y → V.sizes (l.set i x) + y.size = V.sizes l + x.size
 | [], i, x, y, h => by simp at h
 | v :: vs, 0, x, y, h => by simp only [List.getElem?_cons_zero, Option.some.injEq] at h; subst h; simp only [List.set_cons_zero, V.sizes]; omega
 | v :: vs, i + 1, x, y, h => by simp only [List.set_cons_succ, V.sizes]; have := V.sizes_setm vs i x y (by simpa using h); omega
theorem F.sizes_setm : ∀ (l : List F) (i : Nat) (k : ByteArray) (x : V) (f : F), l[i]? = some f → F.sizes (l.set i (.mk k x)) + f.v.size = F.sizes l + x.size
 | [], i, k, x, f, h => by simp at h
 | v :: vs, 0, k, x, f, h => by simp only [List.getElem?_cons_zero, Option.some.injEq] at h; subst h; simp only [List.set_cons_zero, F.sizes, F.size_eq]; simp only [F.v]; omega
 | v :: vs, i + 1, k, x, f, h => by simp only [List.set_cons_succ, F.sizes]; have := F.sizes_setm vs i k x f (by simpa using h); omega
theorem put_size {v y : V} {loc : Loc} (h : v.child? loc = some y) (x : V) : (v.put loc x).size + y.size = v.size + x.size := by
 rw [V.size_eq (v.put loc x), V.size_eq v]
 cases loc with
 | l i =>
  rw [child_l] at h
  rw [(put_l v i x).1, (put_l v i x).2]
  have := V.sizes_setm v.l i x y h
  omega
 | o j =>
  rw [child_o] at h
  cases hf : v.o[j]? with
  | none => rw [hf] at h; cases h
  | some f =>
   rw [hf] at h
   obtain rfl : f.v = y := by simpa using h
   rw [(put_o v j x).1, (put_o v j x).2, hf]
   have := F.sizes_setm v.o j f.key x f hf
   simp only
   omega
theorem putV_size : ∀ (p : List St) (v x w : V), putV v p x = some w → w.size ≤ v.size + x.size
 | [], v, x, w, h => by simp only [putV, Option.some.injEq] at h; subst h; omega
 | s :: p, v, x, w, h => by
  simp only [putV] at h
  cases h1 : stepV v s with
  | none => rw [h1] at h; cases h
  | some loc =>
   rw [h1] at h
   simp only at h
   cases h2 : v.child? loc with
   | none => rw [h2] at h; cases h
   | some y =>
    rw [h2] at h
    simp only at h
    cases h3 : putV y p x with
    | none => rw [h3] at h; cases h
    | some z =>
     rw [h3] at h
     simp only [Option.map_some, Option.some.injEq] at h
     subst h
     have h4 := put_size h2 z
     have h5 := putV_size p y x z h3
     omega
def PutI (w0 : World) (xb rb : Nat) (u3 u4 : Value) (v x : V) (p : List St) (w' : World) (j b off : Nat) (y : V) : Prop :=
 ∃ (f : V → V) (a c : Nat), getV v (p.take j) = some y ∧ (∀ z, putV v (p.take j) z = some (f z)) ∧ PtrT w' b off y a c ∧ Hole w' (fun q => w0.heap.size ≤ q) rb 0 b off f a c ∧ c ≤ w'.heap.size ∧ b < w'.heap.size ∧ w0.heap.size ≤ a ∧ w0.heap.size ≤ b ∧ b ≠ xb ∧ Ext w0 w' ∧
  Blk w' xb TVAL #[U8 x.kind, .int .i64 x.n, .string x.s, u3, u4] ∧ xb < a ∧ b ≠ xb + 1 ∧ xb + 1 < a ∧ Blk w' (xb + 1) TVAL #[.int .u8 0, .int .i64 0, .string ⟨#[]⟩, .slice none 0 0, .slice none 0 0]
theorem PutI.ext {w0 w' w'' : World} {xb rb : Nat} {u3 u4 : Value} {v x y : V} {p : List St} {j b off : Nat} (h : PutI w0 xb rb u3 u4 v x p w' j b off y) (he : Ext w' w'') : PutI w0 xb rb u3 u4 v x p w'' j b off y := by
 obtain ⟨f, a, c, h1, h2, h3, h4, h5, h6, h7, h8, h9, h10, h11, h12, h13, h14, h15⟩ := h
 exact ⟨f, a, c, h1, h2, h3.ext he, h4.ext he h5 h6, Nat.le_trans h5 he.size, Nat.lt_of_lt_of_le h6 he.size, h7, h8, h9, h10.ext he, h11.keep he id, h12, h13, h14, h15.keep he id⟩
theorem PutI.step {w0 w' : World} {xb rb : Nat} {u3 u4 : Value} {v x y : V} {p : List St} {j b off : Nat} (h : PutI w0 xb rb u3 u4 v x p w' j b off y) (hj : j < p.length) :
  ∃ lv ov S1 S2, At5 w' b off [U8 y.kind, .int .i64 y.n, .string y.s, lv, ov] ∧ Sl EVal w' S1 lv y.l ∧ Sl EField w' S2 ov y.o ∧ NextI (PutI w0 xb rb u3 u4 v x p) w' j lv ov y p[j] := by
 obtain ⟨f, a, c, h1, h2, h3, h4, h5, h6, h7, h8, h9, h10, h11, h12, h13, h14, h15⟩ := h
 have h3' := h3
 obtain ⟨cs, g1, g2, g3, g4⟩ := h3'
 obtain ⟨lv, ov, rfl, hl, ho⟩ := rdV_iff.1 (TV_rd (S := fun q => a ≤ q ∧ q < c) _ _ _ _ (fun q h1 h2 => ⟨h1, h2⟩) g2)
 refine ⟨lv, ov, _, _, g1, hl, ho, ?_⟩
 have hsn := getV_snoc (p.take j) v p[j]
 have hpn := fun z => putV_append (p.take j) [p[j]] v z
 rw [List.take_append_getElem hj, h1, Option.bind_some] at hsn
 rw [List.take_append_getElem hj, h1] at hpn
 simp only [Option.bind_some] at hpn
 unfold NextI
 cases hst : stepV y p[j] with
 | none => trivial
 | some loc =>
  rw [hst, Option.bind_some] at hsn
  obtain ⟨z, hz⟩ := stepV_child hst
  rw [hz] at hsn
  have hpn' : ∀ t, putV v (p.take (j + 1)) t = some (f (y.put loc t)) := fun t => by rw [hpn t, putV_one hst, Option.bind_some, h2]
  have hSx : ∀ q, a ≤ q → q < c → w0.heap.size ≤ q := fun q hq _ => by omega
  cases y with
  | mk k n s l o =>
   cases loc with
   | l i =>
    have hi := (List.getElem?_eq_some_iff.1 (show l[i]? = some z from hz)).1
    obtain ⟨g, cap, ai, bi, lv', ov', e1, e2, e3, e4, e5, e8, e6⟩ := h4.stepL h3 hSx h5 i hi
    rw [(List.getElem?_eq_some_iff.1 (show l[i]? = some z from hz)).2] at e3
    have e7 : lv' = lv := by
     have q1 := e1 3 lv' rfl
     have q2 := g1 3 lv rfl
     exact Option.some.inj (q1.symm.trans q2)
    subst e7
    obtain ⟨cs3, k1, k2, k3, k4⟩ := e3
    have k5 := TV_le _ _ _ _ k2
    obtain ⟨u, hu⟩ : ∃ u, cs3[0]? = some u := ⟨cs3[0]'(by omega), by simp⟩
    have hgl : g < w'.heap.size := lt_of_cell (k1 0 u hu)
    exact ⟨g, 0, cap, z, e2, _, ai, bi, hsn, hpn', ⟨cs3, k1, k2, k3, k4⟩, e6, by omega, hgl, by omega, by omega, by omega, h10, h11, by omega, by omega, by omega, h15⟩
   | o i =>
    cases hf : o[i]? with
    | none => rw [child_o] at hz; simp only [V.o] at hz; rw [hf] at hz; cases hz
    | some t =>
     rw [child_o] at hz; simp only [V.o] at hz; rw [hf] at hz
     obtain rfl : t.v = z := by simpa using hz
     have hi := (List.getElem?_eq_some_iff.1 hf).1
     obtain ⟨g, cap, ai, bi, lv', ov', e1, e2, e3, e4, e5, e8, e6⟩ := h4.stepO h3 hSx h5 i hi
     rw [(List.getElem?_eq_some_iff.1 hf).2] at e3
     have e7 : ov' = ov := by
      have q1 := e1 4 ov' rfl
      have q2 := g1 4 ov rfl
      exact Option.some.inj (q1.symm.trans q2)
     subst e7
     obtain ⟨cs3, k1, k2, k3, k4⟩ := e3
     have k5 := TV_le _ _ _ _ k2
     obtain ⟨u, hu⟩ : ∃ u, cs3[0]? = some u := ⟨cs3[0]'(by omega), by simp⟩
     have hgl : g < w'.heap.size := lt_of_cell (k1 0 u hu)
     exact ⟨g, 0, cap, t.v, e2, _, ai, bi, hsn, hpn', ⟨cs3, k1, k2, k3, k4⟩, e6, by omega, hgl, by omega, by omega, by omega, h10, h11, by omega, by omega, by omega, h15⟩
end Go.Proofs.YtioplgfopillnaaDoor
