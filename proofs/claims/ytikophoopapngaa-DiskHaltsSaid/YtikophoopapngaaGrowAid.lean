/- Small words for regions walked by 'wp_region_grow'. No program. -/
import Derived.Test.YtikophoopapngaaOwn
import Derived.Test.YtikophoopapngaaGrowTail
set_option linter.unusedSimpArgs false
set_option linter.unusedVariables false
namespace Go.Proofs.Ytikophoopapngaa
open Go.RowKit

/-- A slice of elements, its form in sight. -/
def SlShape {α : Type} (E : El α) (w : World) (S : BS) (v : Value) (n : Nat) (xs : List α) : Prop := ∃ A c, v = .slice A n c ∧ Sl E w S v xs
theorem SlShape.ext {α : Type} {E : El α} (hE : E.Ok) {w w' : World} {S : BS} {v : Value} {n : Nat} {xs : List α} (h : SlShape E w S v n xs) (he : Ext w w') : SlShape E w' S v n xs := by
  obtain ⟨A, c, e, h⟩ := h; exact ⟨A, c, e, h.ext hE he⟩
theorem bytes_of_S {w : World} {S : BS} {v : Value} {l : List UInt8} {B : Nat} (h : BytesS w S v l) (hS : ∀ k, k < w.heap.size → S k → k < B) : Bytes w B v l := by
  obtain ⟨cs, ⟨h0, A, c, rfl, h1, h2, h3⟩, hc⟩ := h
  have hc := cells_U8 hc
  subst hc
  refine ⟨A, c, by simp, by simpa using h1, h2, fun hn => ?_⟩
  obtain ⟨b, off, e, hb, hlt, hcell⟩ := h3 (by simpa using hn)
  exact ⟨b, off, e, hS b hlt hb, hcell⟩
theorem bytes_all {w : World} {S : BS} {v : Value} {l : List UInt8} (h : BytesS w S v l) : Bytes w w.heap.size v l := bytes_of_S h fun _ h _ => h
/-- Two slices of bytes, in a new block. -/
theorem bytess_two {w : World} {S1 S2 : BS} {v1 v2 : Value} {l1 l2 : List UInt8} {t : TypeId} {f : Nat × Nat} (h1 : BytesS w S1 v1 l1) (h2 : BytesS w S2 v2 l2) :
    Bytess (w.alloc (.cells #[v1, v2] t f)) (w.heap.size + 1) (.slice (some ⟨w.heap.size, 0, none⟩) 2 2) [l1, l2] := by
  have hE : Ext w (w.alloc (.cells #[v1, v2] t f)) := (Keep.refl _ _).alloc _
  refine Bytess.two (u := v1) (u' := v2) (Row.new (w := w) (l := [v1, v2]) (by omega) (by simp [maxLen]) f) ?_ ?_
  · exact (bytes_all (h1.ext EU8.ok hE)).more (by simp)
  · exact (bytes_all (h2.ext EU8.ok hE)).more (by simp)
/-- A slice of slices of bytes, the parts in S. -/
abbrev EBytes : El (List UInt8) := ESl EU8
theorem EBytes.ok : EBytes.Ok := ESl.ok EU8.ok
theorem bytess_of_S {w : World} {S : BS} {v : Value} {ls : List (List UInt8)} (h : Sl EBytes w S v ls) : Bytess w w.heap.size v ls := by
  obtain ⟨A, c, rfl, h1, h2⟩ := h.shape
  have hat := fun (k : Nat) (hk : k < ls.length) => h.at_ EBytes.ok hk
  obtain ⟨cs, ⟨h0, A', c', e, h3, h4, h5⟩, hc⟩ := h
  injection e with e1 _ e3
  subst e1 e3
  have hn : cs.length = ls.length := by rw [h0]; show ls.length * 1 = _; omega
  refine ⟨cs, ⟨A, c, by rw [hn], by omega, h2, fun hp => ?_⟩, hn, fun i hi hi' => ?_⟩
  · obtain ⟨b, off, e, _, hlt, hcell⟩ := h5 (by omega)
    exact ⟨b, off, e, hlt, hcell⟩
  · obtain ⟨c0, hr, hg⟩ := hc.get EBytes.ok hi'
    obtain ⟨v0, rfl, hb⟩ := hr
    have := hg 0 _ rfl
    have e : cs[i] = v0 := by
      have h1 : cs[i]? = some v0 := by simpa [EBytes, ESl] using this
      rw [List.getElem?_eq_getElem hi] at h1
      exact Option.some.inj h1
    rw [e]; exact bytes_all hb
theorem sl_two {w : World} {S : BS} {v1 v2 : Value} {l1 l2 : List UInt8} {t : TypeId} {f : Nat × Nat} (h1 : BytesS w S v1 l1) (h2 : BytesS w S v2 l2) :
    Sl EBytes (w.alloc (.cells #[v1, v2] t f)) (fun k => S k ∨ k = w.heap.size) (.slice (some ⟨w.heap.size, 0, none⟩) 2 2) [l1, l2] := by
  have hE : Ext w (w.alloc (.cells #[v1, v2] t f)) := (Keep.refl _ _).alloc _
  have g : ∀ {v l}, BytesS w S v l → BytesS (w.alloc (.cells #[v1, v2] t f)) (fun k => S k ∨ k = w.heap.size) v l := fun h => (h.ext EU8.ok hE).more EU8.ok fun _ _ h => .inl h
  refine ⟨[v1, v2], (RowS.new (w := w) (sz := 1) (n := 2) (cs := [_, _]) rfl (by simp [maxLen]) f).more fun k _ e => .inr e, ?_⟩
  exact ⟨[v1], _, rfl, ⟨v1, rfl, g h1⟩, [v2], _, rfl, ⟨v2, rfl, g h2⟩, rfl⟩
theorem sl_three {w : World} {S : BS} {v1 v2 v3 : Value} {l1 l2 l3 : List UInt8} {t : TypeId} {f : Nat × Nat} (h1 : BytesS w S v1 l1) (h2 : BytesS w S v2 l2) (h3 : BytesS w S v3 l3) :
    Sl EBytes (w.alloc (.cells #[v1, v2, v3] t f)) (fun k => S k ∨ k = w.heap.size) (.slice (some ⟨w.heap.size, 0, none⟩) 3 3) [l1, l2, l3] := by
  have hE : Ext w (w.alloc (.cells #[v1, v2, v3] t f)) := (Keep.refl _ _).alloc _
  have g : ∀ {v l}, BytesS w S v l → BytesS (w.alloc (.cells #[v1, v2, v3] t f)) (fun k => S k ∨ k = w.heap.size) v l := fun h => (h.ext EU8.ok hE).more EU8.ok fun _ _ h => .inl h
  refine ⟨[v1, v2, v3], (RowS.new (w := w) (sz := 1) (n := 3) (cs := [_, _, _]) rfl (by simp [maxLen]) f).more fun k _ e => .inr e, ?_⟩
  exact ⟨[v1], _, rfl, ⟨v1, rfl, g h1⟩, [v2], _, rfl, ⟨v2, rfl, g h2⟩, [v3], _, rfl, ⟨v3, rfl, g h3⟩, rfl⟩
theorem bytes_any {w : World} {S : BS} {v : Value} {l : List UInt8} (h : BytesS w S v l) : BytesS w (fun _ => True) v l := h.more EU8.ok fun _ _ _ => trivial
theorem own_u8 {w : World} {base : Nat} {T : TypeId} {S S' : BS} {v : Value} {l : List UInt8} (h : Own EU8 w base T S v l) : Own EU8 w base T S' v l := by
  rcases h with h | ⟨g', cap, cur, e, h1, h2, h3, h4, h5, h6⟩
  · exact .inl h
  · refine .inr ⟨g', cap, cur, e, h1, h2, h3, h4, h5, ?_⟩
    rw [cells_U8 h6]; exact U8_cells _
/-- Bytes of the call's own, as bytes in new memory. -/
theorem own_new {w : World} {base : Nat} {T : TypeId} {S : BS} {v : Value} {l : List UInt8} (h : Own EU8 w base T S v l) : BytesS w (fun k => base ≤ k) v l := by
  obtain ⟨cs, h1, h2⟩ := h.rowS EU8.ok
  refine ⟨cs, h1.more fun k _ e => (h.lt e).1, ?_⟩
  rw [cells_U8 h2]
  exact U8_cells _
/-- One byte of the call's own: read, written. -/
theorem own_u8_at {w : World} {base : Nat} {T : TypeId} {S : BS} {v : Value} {l : List UInt8} (h : Own EU8 w base T S v l) {k : Nat} (hk : k < l.length) :
    ∃ g cap, v = .slice (some ⟨g, 0, none⟩) l.length cap ∧ base ≤ g ∧ g < w.heap.size ∧ l.length ≤ cap ∧ cap ≤ maxLen ∧ w.cell? ⟨g, k, none⟩ = some (U8 l[k]) ∧ w.frozen? ⟨g, k, none⟩ = false ∧
      ∀ x : UInt8, Own EU8 (w.setCell ⟨g, k, none⟩ (U8 x)) base T S v (l.set k x) := by
  rcases h with ⟨_, rfl⟩ | ⟨g, cap, cur, rfl, h1, h2, h3, h4, h5, h6⟩
  · simp at hk
  have hc := cells_U8 h6
  have e1 : EU8.size = 1 := rfl
  rw [e1, Nat.mul_one] at hc h5
  have hcur : cur[k]? = some (U8 l[k]) := by
    have : (cur.toList.take l.length)[k]? = (l.map U8)[k]? := by rw [hc]
    rw [List.getElem?_take_of_lt hk] at this
    simpa [hk] using this
  refine ⟨g, cap, rfl, h1, h2.lt, h3, h4, by rw [h2.cell]; exact hcur, h2.frozen k, fun x => .inr ⟨g, cap, _, by rw [List.length_set], h1, h2.set_ k (U8 x), by simpa using h3, h4, by simpa [e1] using h5, ?_⟩⟩
  have : (cur.setIfInBounds k (U8 x)).toList.take ((l.set k x).length * EU8.size) = (l.set k x).map U8 := by
    rw [e1, Nat.mul_one, List.length_set, Array.toList_setIfInBounds, List.take_set, hc, List.map_set]
  rw [this]
  exact U8_cells _
/-- Bytes in a new block. -/
theorem bytes_new {w : World} {t : TypeId} {f : Nat × Nat} (l : List UInt8) (h : l.length ≤ maxLen) :
    BytesS (w.alloc (.cells (l.map U8).toArray t f)) (fun k => w.heap.size ≤ k) (.slice (some ⟨w.heap.size, 0, none⟩) l.length l.length) l :=
  ⟨l.map U8, (RowS.new (w := w) (t := t) (sz := 1) (n := l.length) (cs := l.map U8) (by simp) h f).more fun k _ e => by subst e; exact Nat.le_refl _, U8_cells _⟩
/-- In a walk: 'append(own, bytes...)'. -/
theorem wpList_append_bytes {P : Program} {w : World} {S2 : BS} {base : Nat} {t T : TypeId} {v y : Value} {xs ys : List UInt8} {ops : Array Oper} {rest : List Oper} {o : Oper} {a : Act} {Q : Exit → Act → World → Prop} (hgd : o.guard = none) (s x : Operand)
    (ht : TyInfo P t T 1 1) (ho : o.op = .call { callee := .builtin .append, args := #[s, x], argTypes := #[t, t] })
    (hs : a.eval s = v) (hx : a.eval x = y) (hown : Own EU8 w base T (fun _ => False) v xs) (hsrc : BytesS w S2 y ys) (hg : ∀ g, v.ownBlock = some g → ¬ S2 g)
    (hlen : xs.length + ys.length ≤ 140737488355328) (hbase : base ≤ w.heap.size)
    (h : ∀ A' c' w', Own EU8 w' base T (fun _ => False) (.slice A' (xs.length + ys.length) c') (xs ++ ys) → xs.length + ys.length ≤ c' → c' ≤ maxLen → Keep (fun k => v.ownBlock = some k) w w' → wpList P ops Q rest (a.put o.dst (.slice A' (xs.length + ys.length) c')) w') : wpList P ops Q (o :: rest) a w := by
  refine wpList_own_append (E := EU8) w hgd s x EU8.ok ht ho hs hx hown hsrc (fun g e => ⟨id, hg g e⟩) (by omega) (by simp only [maxLen]; omega) hbase (fun v' w' h1 h2 h3 => ?_)
  obtain ⟨A', c', e, h4, h5⟩ := h1.shape
  rw [List.length_append] at e h4
  subst e
  exact h A' c' w' (own_u8 h1) h4 h5 h2
end Go.Proofs.Ytikophoopapngaa
