/- append to a row of the call's own: the source's row and its data told apart. No program. -/
import Derived.Test.YtjpbfdkpkeaofaaOwn
set_option linter.unusedSimpArgs false
set_option linter.unusedVariables false
namespace Go.Proofs.Ytjpbfdkpkeaofaa
open Go.RowKit

section
variable {P : Program} {α : Type} {E : El α} {w : World} {S S2 : BS} {base : Nat} {t T : TypeId} {v y : Value} {xs ys : List α} {bytes : Nat}

/-- 'append(own, ys...)'. -/
theorem own_append2 {SR : BS} {ds : List Value} (hE : E.Ok) (ht : TyInfo P t T E.size bytes) (ty : TypeId) (hown : Own E w base T S v xs) (hsr : RowS w SR E.size y ys.length ds) (hds : Cells E w S2 ds ys)
    (hg : ∀ g, v.ownBlock = some g → ¬ S g ∧ ¬ S2 g)
    (h63 : xs.length + ys.length ≤ maxLen) (hbytes : (xs.length + ys.length) * bytes ≤ 140737488355328) (hbase : base ≤ w.heap.size) :
    ∃ v' w', (Builtin.append_ #[t, t] ty #[v, y]).run P w = .ok v' w' ∧ Own E w' base T (fun k => S k ∨ S2 k) v' (xs ++ ys) ∧ w.grownBy w' v.ownBlock ∧ (v'.ownBlock = v.ownBlock ∨ v'.ownBlock = some w.heap.size) := by
  obtain ⟨i, z, hi, hz, hsize, hby, hzs⟩ := ht.info
  obtain ⟨cs, hrow, hcs⟩ := hown.toRow hE
  obtain ⟨hl, A, c, rfl, _, _, hcell⟩ := hsr
  have hfin : ∀ v' w', w'.ownsRow base T E.size v' (xs.length + ys.length) (cs ++ ds) → w.grownBy w' v.ownBlock → Own E w' base T (fun k => S k ∨ S2 k) v' (xs ++ ys) := by
    intro v' w' h1 h2
    rw [← List.length_append] at h1
    refine Own.ofRow h1 ?_
    have hk : Keep (fun k => v.ownBlock = some k) w w' := (Keep.refl _ _).grown h2 (fun k e _ => e)
    refine Cells.append ?_ ?_
    · exact (hcs.keep hE hk fun k hs e => (hg k e).1 hs).more hE fun _ _ h => .inl h
    · cases hb : v.ownBlock with
      | none =>
        rw [hb] at hk
        exact (hds.keep hE hk fun k _ e => by cases e).more hE fun _ _ h => .inr h
      | some g =>
        rw [hb] at hk
        exact (hds.keep hE hk fun k hs e => (hg g hb).2 (by injection e with e; subst e; exact hs)).more hE fun _ _ h => .inr h
  rcases A with _ | ad
  · have hm : ys = [] := by
      rcases Nat.eq_zero_or_pos ys.length with h0 | h0
      · exact List.eq_nil_of_length_eq_zero h0
      · obtain ⟨b, off, h, _⟩ := hcell h0
        cases h
    subst hm
    have hn : ds = [] := List.eq_nil_of_length_eq_zero (by simpa using hl)
    subst hn
    have hrun : (Builtin.append_ #[t, t] ty #[v, .slice none 0 c]).run P w = .ok v w := by
      rcases hrow.2 with ⟨rfl, h0⟩ | ⟨g, cap, cur, rfl, _, _, hnc, _⟩
      · simp [Builtin.append_, run_underlying ht.under, sizeOf, typeInfo, hi, Builtin.lenOf, Builtin.firstCells]
      · simp [Builtin.append_, run_underlying ht.under, sizeOf, typeInfo, hi, Builtin.lenOf, Builtin.firstCells, hnc, storeCells]
    exact ⟨v, w, hrun, hfin v w (by simpa using hrow) (World.grownBy.refl w _), World.grownBy.refl w _, .inl rfl⟩
  · have hcells : ∀ j u, ds[j]? = some u → w.cell? (ad.add j) = some u := by
      intro j u hu
      rcases Nat.eq_zero_or_pos ys.length with h0 | h0
      · have hn : ds = [] := List.eq_nil_of_length_eq_zero (by simp [hl, h0])
        subst hn
        simp at hu
      · obtain ⟨b, off, e, _, _, hc⟩ := hcell h0
        injection e with e
        subst e
        have := hc j u hu
        unfold Addr.add
        split
        · rename_i h0; subst h0; simpa using this
        · exact this
    obtain ⟨v', w', hrun, h2, h3, _, h5⟩ := run_append_own_at (P := P) w base t ty T i z E.size bytes ht.under hi hz hsize hby hzs hE.pos v xs.length cs hrow ad ys.length c ds hl hcells (hds.one hE) h63 hbytes hbase
    exact ⟨v', w', hrun, hfin v' w' h2 h3, h3, h5⟩

/-- In a walk: 'append(own, ys...)', the source apart from the own block. -/
theorem wpList_own_append2 (w : World) {SR : BS} {ds : List Value} {ops : Array Oper} {rest : List Oper} {o : Oper} {a : Act} {Q : Exit → Act → World → Prop} (hgd : o.guard = none) (s x : Operand)
    (hE : E.Ok) (ht : TyInfo P t T E.size bytes) (ho : o.op = .call { callee := .builtin .append, args := #[s, x], argTypes := #[t, t] })
    (hs : a.eval s = v) (hx : a.eval x = y) (hown : Own E w base T S v xs) (hsr : RowS w SR E.size y ys.length ds) (hds : Cells E w S2 ds ys) (hg : ∀ g, v.ownBlock = some g → ¬ S g ∧ ¬ S2 g)
    (hbytes : (xs.length + ys.length) * bytes ≤ 140737488355328) (h63 : xs.length + ys.length ≤ maxLen) (hbase : base ≤ w.heap.size)
    (h : ∀ v' w', Own E w' base T (fun k => S k ∨ S2 k) v' (xs ++ ys) → Keep (fun k => v.ownBlock = some k) w w' → (v'.ownBlock = v.ownBlock ∨ v'.ownBlock = some w.heap.size) → wpList P ops Q rest (a.put o.dst v') w') : wpList P ops Q (o :: rest) a w := by
  obtain ⟨v', w', hrun, h1, h2, h3⟩ := own_append2 (P := P) (w := w) hE ht o.type hown hsr hds hg h63 hbytes hbase
  refine wpList_plain hgd fun K hK => ?_
  unfold Oper.wp execOp
  simp only [ho, resolve, invoke, builtin, Sem.run_bind, Sem.run_pure, Result.andThen_ok, List.map_toArray, List.map_cons, List.map_nil, hs, hx, hrun]
  exact hK _ _ (h v' w' h1 ((Keep.refl _ _).grown h2 (fun k e _ => e)) h3)
end
end Go.Proofs.Ytjpbfdkpkeaofaa
