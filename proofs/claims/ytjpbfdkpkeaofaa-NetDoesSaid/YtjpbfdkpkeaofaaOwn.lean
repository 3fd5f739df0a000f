/- Rows of the call's own: elements in a block that is known whole; append, clear, delete. No program. -/
import Derived.Test.YtjpbfdkpkeaofaaData
import Derived.Laws.CopyRow
import Derived.RegionTactic
import Derived.OwnWalk
set_option linter.unusedSimpArgs false
set_option linter.unusedVariables false
namespace Go.Proofs.Ytjpbfdkpkeaofaa
open Go.RowKit

/-- The slice v holds the elements xs in a block of its own (element type T), from block 'base' on; their data lie in S. -/
def Own {α : Type} (E : El α) (w : World) (base : Nat) (T : TypeId) (S : BS) (v : Value) (xs : List α) : Prop :=
  (v = .slice none 0 0 ∧ xs = []) ∨
  ∃ g cap cur, v = .slice (some ⟨g, 0, none⟩) xs.length cap ∧ base ≤ g ∧ Blk w g T cur ∧ xs.length ≤ cap ∧ cap ≤ maxLen ∧ cur.size = cap * E.size ∧ Cells E w S (cur.toList.take (xs.length * E.size)) xs

theorem Blk.setRow {w : World} {g : Nat} {t : TypeId} {cs : Array Value} (h : Blk w g t cs) (cs' : Array Value) : Blk (w.setRow g cs') g t cs' := setRow_heap w g cs cs' t (0, 0) h
theorem Keep.setRow {F : Nat → Prop} {a w : World} (h : Keep F a w) {g : Nat} (hg : g < a.heap.size → F g) (cs : Array Value) : Keep F a (w.setRow g cs) :=
  h.trans (G := fun k => k = g) ⟨rfl, rfl, rfl, by simp, fun k _ hn => setRow_other w g k cs hn⟩ (fun k hk e => by subst e; exact hg hk)

section
variable {α : Type} {E : El α} {F : Nat → Prop} {w w' : World} {S S' : BS} {base : Nat} {T : TypeId} {v : Value} {xs : List α}
theorem Own.nil (w : World) (base : Nat) (T : TypeId) (S : BS) : Own E w base T S (.slice none 0 0) [] := .inl ⟨rfl, rfl⟩
theorem Own.lt (h : Own E w base T S v xs) {g : Nat} (hg : v.ownBlock = some g) : base ≤ g ∧ g < w.heap.size := by
  rcases h with ⟨rfl, _⟩ | ⟨g', cap, cur, rfl, h1, h2, _⟩
  · simp [Value.ownBlock] at hg
  · simp [Value.ownBlock] at hg; subst hg; exact ⟨h1, h2.lt⟩
theorem Own.shape (h : Own E w base T S v xs) : ∃ A c, v = .slice A xs.length c ∧ xs.length ≤ c ∧ c ≤ maxLen := by
  rcases h with ⟨rfl, rfl⟩ | ⟨g', cap, cur, rfl, h1, h2, h3, h4, _⟩
  · exact ⟨none, 0, rfl, by simp, by simp [maxLen]⟩
  · exact ⟨_, cap, rfl, h3, h4⟩
theorem Own.keep (hE : E.Ok) (h : Own E w base T S v xs) (hk : Keep F w w') (hF : ∀ k, S k → ¬ F k) (hg : ∀ g, v.ownBlock = some g → ¬ F g) : Own E w' base T S v xs := by
  rcases h with h | ⟨g', cap, cur, rfl, h1, h2, h3, h4, h5, h6⟩
  · exact .inl h
  · exact .inr ⟨g', cap, cur, rfl, h1, h2.keep hk (hg g' rfl), h3, h4, h5, h6.keep hE hk hF⟩
theorem Own.ext (hE : E.Ok) (h : Own E w base T S v xs) (hk : Ext w w') : Own E w' base T S v xs := h.keep hE hk (fun _ _ x => x) (fun _ _ x => x)
theorem Own.more (hE : E.Ok) (h : Own E w base T S v xs) (hS : ∀ k, k < w.heap.size → S k → S' k) : Own E w base T S' v xs := by
  rcases h with h | ⟨g', cap, cur, rfl, h1, h2, h3, h4, h5, h6⟩
  · exact .inl h
  · exact .inr ⟨g', cap, cur, rfl, h1, h2, h3, h4, h5, h6.more hE hS⟩
theorem Own.less {b' : Nat} (h : Own E w base T S v xs) (hb : b' ≤ base) : Own E w b' T S v xs := by
  rcases h with h | ⟨g', cap, cur, rfl, h1, h2⟩
  · exact .inl h
  · exact .inr ⟨g', cap, cur, rfl, by omega, h2⟩
theorem Own.rowS (hE : E.Ok) (h : Own E w base T S v xs) : ∃ cs, RowS w (fun k => v.ownBlock = some k) E.size v xs.length cs ∧ Cells E w S cs xs := by
  rcases h with ⟨rfl, rfl⟩ | ⟨g', cap, cur, rfl, h1, h2, h3, h4, h5, h6⟩
  · exact ⟨[], RowS.nil _ _ _, rfl⟩
  · refine ⟨_, ⟨h6.len hE, _, cap, rfl, h3, h4, fun _ => ⟨g', 0, rfl, rfl, h2.lt, fun j u hu => ?_⟩⟩, h6⟩
    rw [Nat.zero_add, h2.cell]
    have hj := (List.getElem?_eq_some_iff.1 hu).1
    rw [List.getElem?_take_of_lt (by simp at hj; omega)] at hu
    simpa using hu
theorem Own.sl (hE : E.Ok) (h : Own E w base T S v xs) : Sl E w (fun k => S k ∨ v.ownBlock = some k) v xs := by
  obtain ⟨cs, h1, h2⟩ := h.rowS hE
  exact ⟨cs, h1.more fun _ _ h => .inr h, h2.more hE fun _ _ h => .inl h⟩
theorem Own.toRow (hE : E.Ok) (h : Own E w base T S v xs) : ∃ cs, w.ownsRow base T E.size v xs.length cs ∧ Cells E w S cs xs := by
  rcases h with ⟨rfl, rfl⟩ | ⟨g', cap, cur, rfl, h1, h2, h3, h4, h5, h6⟩
  · exact ⟨[], World.ownsRow_nil _ _ _ _, rfl⟩
  · exact ⟨_, ⟨h6.len hE, .inr ⟨g', cap, cur, rfl, h1, h2, h3, h4, h5, rfl⟩⟩, h6⟩
theorem Own.ofRow {cs : List Value} (h : w.ownsRow base T E.size v xs.length cs) (h6 : Cells E w S cs xs) : Own E w base T S v xs := by
  rcases h.2 with ⟨rfl, h0⟩ | ⟨g, cap, cur, rfl, hg, hh, hnc, hcap, hsz, htk⟩
  · exact .inl ⟨rfl, List.eq_nil_of_length_eq_zero h0⟩
  · exact .inr ⟨g, cap, cur, rfl, hg, hh, hnc, hcap, hsz, by rw [htk]; exact h6⟩
/-- An element's cells. -/
theorem Own.at_ (hE : E.Ok) {g cap : Nat} {n : Nat} (h : Own E w base T S (.slice (some ⟨g, 0, none⟩) n cap) xs) {k : Nat} (hk : k < xs.length) :
    ∃ c0, E.rd w S c0 xs[k] ∧ ∀ j u, c0[j]? = some u → w.cell? ⟨g, k * E.size + j, none⟩ = some u := by
  rcases h with ⟨h, _⟩ | ⟨g', cap', cur, e, h1, h2, h3, h4, h5, h6⟩
  · cases h
  · injection e with e1 e2 e3
    injection e1 with e1
    injection e1 with e1 _ _
    subst e1
    obtain ⟨c0, a, b⟩ := h6.get hE hk
    refine ⟨c0, a, fun j u hu => ?_⟩
    have := b j u hu
    rw [h2.cell]
    rw [List.getElem?_take_of_lt (by have := (List.getElem?_eq_some_iff.1 this).1; simp at this; omega)] at this
    simpa using this
theorem Own.frozen {g cap n : Nat} (h : Own E w base T S (.slice (some ⟨g, 0, none⟩) n cap) xs) (i : Nat) : w.frozen? ⟨g, i, none⟩ = false := by
  rcases h with ⟨h, _⟩ | ⟨g', cap', cur, e, h1, h2, h3, h4, h5, h6⟩
  · cases h
  · injection e with e1 e2 e3
    injection e1 with e1
    injection e1 with e1 _ _
    subst e1
    exact h2.frozen i
theorem Own.form (h : Own E w base T S v xs) (hn : 0 < xs.length) : ∃ g cap, v = .slice (some ⟨g, 0, none⟩) xs.length cap ∧ base ≤ g ∧ g < w.heap.size ∧ xs.length ≤ cap ∧ cap ≤ maxLen := by
  rcases h with ⟨rfl, rfl⟩ | ⟨g', cap', cur, e, h1, h2, h3, h4, h5, h6⟩
  · simp at hn
  · exact ⟨g', cap', e, h1, h2.lt, h3, h4⟩
end

/-- What a slice type's element type is, in the program's tables. -/
structure TyInfo (P : Program) (t T : TypeId) (sz bytes : Nat) : Prop where
  under : P.underlying t = some (.slice T)
  info : ∃ i z, P.info? T = some i ∧ i.zero = some z ∧ i.size = sz ∧ i.bytes = bytes ∧ z.cells.size = sz

section
variable {P : Program} {α : Type} {E : El α} {w : World} {S S2 : BS} {base : Nat} {t T : TypeId} {v y : Value} {xs ys : List α} {bytes : Nat}

/-- 'append(own, ys...)'. -/
theorem own_append (hE : E.Ok) (ht : TyInfo P t T E.size bytes) (ty : TypeId) (hown : Own E w base T S v xs) (hsrc : Sl E w S2 y ys)
    (hg : ∀ g, v.ownBlock = some g → ¬ S g ∧ ∀ cs, RowS w S2 E.size y ys.length cs → Cells E w S2 cs ys → Cells E w (fun k => S2 k ∧ k ≠ g) cs ys)
    (h63 : xs.length + ys.length ≤ maxLen) (hbytes : (xs.length + ys.length) * bytes ≤ 140737488355328) (hbase : base ≤ w.heap.size) :
    ∃ v' w', (Builtin.append_ #[t, t] ty #[v, y]).run P w = .ok v' w' ∧ Own E w' base T (fun k => S k ∨ S2 k) v' (xs ++ ys) ∧ w.grownBy w' v.ownBlock ∧ (v'.ownBlock = v.ownBlock ∨ v'.ownBlock = some w.heap.size) := by
  obtain ⟨i, z, hi, hz, hsize, hby, hzs⟩ := ht.info
  obtain ⟨cs, hrow, hcs⟩ := hown.toRow hE
  obtain ⟨ds, hsr, hds⟩ := hsrc
  obtain ⟨hl, A, c, rfl, _, _, hcell⟩ := hsr
  have hfin : ∀ v' w', w'.ownsRow base T E.size v' (xs.length + ys.length) (cs ++ ds) → w.grownBy w' v.ownBlock → Own E w' base T (fun k => S k ∨ S2 k) v' (xs ++ ys) := by
    intro v' w' h1 h2
    rw [← List.length_append] at h1
    refine Own.ofRow h1 ?_
    have hk : Keep (fun k => v.ownBlock = some k) w w' := (Keep.refl _ _).grown h2 (fun k e _ => e)
    refine Cells.append ?_ ?_
    · exact (hcs.keep hE hk fun k hs e => (hg k e).1 hs).more hE fun _ _ h => .inl h
    · cases hb : v.ownBlock with
      | none =>
        rw [hb] at hk
        exact (hds.keep hE hk fun k _ e => by cases e).more hE fun _ _ h => .inr h
      | some g =>
        rw [hb] at hk
        exact (((hg g hb).2 ds ⟨hl, A, c, rfl, ‹_›, ‹_›, hcell⟩ hds).keep hE hk fun k hs e => hs.2 (by injection e with e; exact e.symm)).more hE fun _ _ h => .inr h.1
  rcases A with _ | ad
  · have hm : ys = [] := by
      rcases Nat.eq_zero_or_pos ys.length with h0 | h0
      · exact List.eq_nil_of_length_eq_zero h0
      · obtain ⟨b, off, h, _⟩ := hcell h0
        cases h
    subst hm
    have hn : ds = [] := List.eq_nil_of_length_eq_zero (by simpa using hl)
    subst hn
    have hrun : (Builtin.append_ #[t, t] ty #[v, .slice none 0 c]).run P w = .ok v w := by
      rcases hrow.2 with ⟨rfl, h0⟩ | ⟨g, cap, cur, rfl, _, _, hnc, _⟩
      · simp [Builtin.append_, run_underlying ht.under, sizeOf, typeInfo, hi, Builtin.lenOf, Builtin.firstCells]
      · simp [Builtin.append_, run_underlying ht.under, sizeOf, typeInfo, hi, Builtin.lenOf, Builtin.firstCells, hnc, storeCells]
    exact ⟨v, w, hrun, hfin v w (by simpa using hrow) (World.grownBy.refl w _), World.grownBy.refl w _, .inl rfl⟩
  · have hcells : ∀ j u, ds[j]? = some u → w.cell? (ad.add j) = some u := by
      intro j u hu
      rcases Nat.eq_zero_or_pos ys.length with h0 | h0
      · have hn : ds = [] := List.eq_nil_of_length_eq_zero (by simp [hl, h0])
        subst hn
        simp at hu
      · obtain ⟨b, off, e, _, _, hc⟩ := hcell h0
        injection e with e
        subst e
        have := hc j u hu
        unfold Addr.add
        split
        · rename_i h0; subst h0; simpa using this
        · exact this
    obtain ⟨v', w', hrun, h2, h3, _, h5⟩ := run_append_own_at (P := P) w base t ty T i z E.size bytes ht.under hi hz hsize hby hzs hE.pos v xs.length cs hrow ad ys.length c ds hl hcells (hds.one hE) h63 hbytes hbase
    exact ⟨v', w', hrun, hfin v' w' h2 h3, h3, h5⟩

/-- In a walk: 'append(own, ys...)', the source apart from the own block. -/
theorem wpList_own_append (w : World) {ops : Array Oper} {rest : List Oper} {o : Oper} {a : Act} {Q : Exit → Act → World → Prop} (hgd : o.guard = none) (s x : Operand)
    (hE : E.Ok) (ht : TyInfo P t T E.size bytes) (ho : o.op = .call { callee := .builtin .append, args := #[s, x], argTypes := #[t, t] })
    (hs : a.eval s = v) (hx : a.eval x = y) (hown : Own E w base T S v xs) (hsrc : Sl E w S2 y ys) (hg : ∀ g, v.ownBlock = some g → ¬ S g ∧ ¬ S2 g)
    (hbytes : (xs.length + ys.length) * bytes ≤ 140737488355328) (h63 : xs.length + ys.length ≤ maxLen) (hbase : base ≤ w.heap.size)
    (h : ∀ v' w', Own E w' base T (fun k => S k ∨ S2 k) v' (xs ++ ys) → Keep (fun k => v.ownBlock = some k) w w' → (v'.ownBlock = v.ownBlock ∨ v'.ownBlock = some w.heap.size) → wpList P ops Q rest (a.put o.dst v') w') : wpList P ops Q (o :: rest) a w := by
  obtain ⟨v', w', hrun, h1, h2, h3⟩ := own_append (P := P) (w := w) hE ht o.type hown hsrc (fun g e => ⟨(hg g e).1, fun cs _ hc => hc.more hE fun k hk hS => ⟨hS, fun e' => (hg g e).2 (e' ▸ hS)⟩⟩) h63 hbytes hbase
  refine wpList_plain hgd fun K hK => ?_
  unfold Oper.wp execOp
  simp only [ho, resolve, invoke, builtin, Sem.run_bind, Sem.run_pure, Result.andThen_ok, List.map_toArray, List.map_cons, List.map_nil, hs, hx, hrun]
  exact hK _ _ (h v' w' h1 ((Keep.refl _ _).grown h2 (fun k e _ => e)) h3)
end
end Go.Proofs.Ytjpbfdkpkeaofaa
