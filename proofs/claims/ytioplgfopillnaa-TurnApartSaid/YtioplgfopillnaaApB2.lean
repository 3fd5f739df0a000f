/- Own, ValD, Mix: laid together. -/
import Derived.Test.YtioplgfopillnaaApB1
import Derived.Laws.CopyRow
import Derived.RegionTactic
import Derived.OwnWalk
/- Rows of the call's own: elements in a block that is known whole; append, clear, delete. No program. -/
set_option linter.unusedSimpArgs false
set_option linter.unusedVariables false
namespace Go.Proofs.Ytioplgfopillnaa
open Go.RowKit

/-- The slice v holds the elements xs in a block of its own (element type T), from block 'base' on; their data lie in S. -/
def Own {α : Type} (E : El α) (w : World) (base : Nat) (T : TypeId) (S : BS) (v : Value) (xs : List α) : Prop :=
  (v = .slice none 0 0 ∧ xs = []) ∨
  ∃ g cap cur, v = .slice (some ⟨g, 0, none⟩) xs.length cap ∧ base ≤ g ∧ Blk w g T cur ∧ xs.length ≤ cap ∧ cap ≤ maxLen ∧ cur.size = cap * E.size ∧ Cells E w S (cur.toList.take (xs.length * E.size)) xs

theorem Blk.setRow {w : World} {g : Nat} {t : TypeId} {cs : Array Value} (h : Blk w g t cs) (cs' : Array Value) : Blk (w.setRow g cs') g t cs' := setRow_heap w g cs cs' t (0, 0) h
theorem Keep.setRow {F : Nat → Prop} {a w : World} (h : Keep F a w) {g : Nat} (hg : g < a.heap.size → F g) (cs : Array Value) : Keep F a (w.setRow g cs) :=
  h.trans (G := fun k => k = g) ⟨rfl, rfl, rfl, by simp, fun k _ hn => setRow_other w g k cs hn⟩ (fun k hk e => by subst e; exact hg hk)

section
variable {α : Type} {E : El α} {F : Nat → Prop} {w w' : World} {S S' : BS} {base : Nat} {T : TypeId} {v : Value} {xs : List α}
theorem Own.nil (w : World) (base : Nat) (T : TypeId) (S : BS) : Own E w base T S (.slice none 0 0) [] := .inl ⟨rfl, rfl⟩
theorem Own.lt (h : Own E w base T S v xs) {g : Nat} (hg : v.ownBlock = some g) : base ≤ g ∧ g < w.heap.size := by
  rcases h with ⟨rfl, _⟩ | ⟨g', cap, cur, rfl, h1, h2, _⟩
  · simp [Value.ownBlock] at hg
  · simp [Value.ownBlock] at hg; subst hg; exact ⟨h1, h2.lt⟩
theorem Own.shape (h : Own E w base T S v xs) : ∃ A c, v = .slice A xs.length c ∧ xs.length ≤ c ∧ c ≤ maxLen := by
  rcases h with ⟨rfl, rfl⟩ | ⟨g', cap, cur, rfl, h1, h2, h3, h4, _⟩
  · exact ⟨none, 0, rfl, by simp, by simp [maxLen]⟩
  · exact ⟨_, cap, rfl, h3, h4⟩
theorem Own.keep (hE : E.Ok) (h : Own E w base T S v xs) (hk : Keep F w w') (hF : ∀ k, S k → ¬ F k) (hg : ∀ g, v.ownBlock = some g → ¬ F g) : Own E w' base T S v xs := by
  rcases h with h | ⟨g', cap, cur, rfl, h1, h2, h3, h4, h5, h6⟩
  · exact .inl h
  · exact .inr ⟨g', cap, cur, rfl, h1, h2.keep hk (hg g' rfl), h3, h4, h5, h6.keep hE hk hF⟩
theorem Own.ext (hE : E.Ok) (h : Own E w base T S v xs) (hk : Ext w w') : Own E w' base T S v xs := h.keep hE hk (fun _ _ x => x) (fun _ _ x => x)
theorem Own.more (hE : E.Ok) (h : Own E w base T S v xs) (hS : ∀ k, k < w.heap.size → S k → S' k) : Own E w base T S' v xs := by
  rcases h with h | ⟨g', cap, cur, rfl, h1, h2, h3, h4, h5, h6⟩
  · exact .inl h
  · exact .inr ⟨g', cap, cur, rfl, h1, h2, h3, h4, h5, h6.more hE hS⟩
theorem Own.less {b' : Nat} (h : Own E w base T S v xs) (hb : b' ≤ base) : Own E w b' T S v xs := by
  rcases h with h | ⟨g', cap, cur, rfl, h1, h2⟩
  · exact .inl h
  · exact .inr ⟨g', cap, cur, rfl, by omega, h2⟩
theorem Own.rowS (hE : E.Ok) (h : Own E w base T S v xs) : ∃ cs, RowS w (fun k => v.ownBlock = some k) E.size v xs.length cs ∧ Cells E w S cs xs := by
  rcases h with ⟨rfl, rfl⟩ | ⟨g', cap, cur, rfl, h1, h2, h3, h4, h5, h6⟩
  · exact ⟨[], RowS.nil _ _ _, rfl⟩
  · refine ⟨_, ⟨h6.len hE, _, cap, rfl, h3, h4, fun _ => ⟨g', 0, rfl, rfl, h2.lt, fun j u hu => ?_⟩⟩, h6⟩
    rw [Nat.zero_add, h2.cell]
    have hj := (List.getElem?_eq_some_iff.1 hu).1
    rw [List.getElem?_take_of_lt (by simp at hj; omega)] at hu
    simpa using hu
theorem Own.sl (hE : E.Ok) (h : Own E w base T S v xs) : Sl E w (fun k => S k ∨ v.ownBlock = some k) v xs := by
  obtain ⟨cs, h1, h2⟩ := h.rowS hE
  exact ⟨cs, h1.more fun _ _ h => .inr h, h2.more hE fun _ _ h => .inl h⟩
theorem Own.toRow (hE : E.Ok) (h : Own E w base T S v xs) : ∃ cs, w.ownsRow base T E.size v xs.length cs ∧ Cells E w S cs xs := by
  rcases h with ⟨rfl, rfl⟩ | ⟨g', cap, cur, rfl, h1, h2, h3, h4, h5, h6⟩
  · exact ⟨[], World.ownsRow_nil _ _ _ _, rfl⟩
  · exact ⟨_, ⟨h6.len hE, .inr ⟨g', cap, cur, rfl, h1, h2, h3, h4, h5, rfl⟩⟩, h6⟩
theorem Own.ofRow {cs : List Value} (h : w.ownsRow base T E.size v xs.length cs) (h6 : Cells E w S cs xs) : Own E w base T S v xs := by
  rcases h.2 with ⟨rfl, h0⟩ | ⟨g, cap, cur, rfl, hg, hh, hnc, hcap, hsz, htk⟩
  · exact .inl ⟨rfl, List.eq_nil_of_length_eq_zero h0⟩
  · exact .inr ⟨g, cap, cur, rfl, hg, hh, hnc, hcap, hsz, by rw [htk]; exact h6⟩
/-- An element's cells. -/
theorem Own.at_ (hE : E.Ok) {g cap : Nat} {n : Nat} (h : Own E w base T S (.slice (some ⟨g, 0, none⟩) n cap) xs) {k : Nat} (hk : k < xs.length) :
    ∃ c0, E.rd w S c0 xs[k] ∧ ∀ j u, c0[j]? = some u → w.cell? ⟨g, k * E.size + j, none⟩ = some u := by
  rcases h with ⟨h, _⟩ | ⟨g', cap', cur, e, h1, h2, h3, h4, h5, h6⟩
  · cases h
  · injection e with e1 e2 e3
    injection e1 with e1
    injection e1 with e1 _ _
    subst e1
    obtain ⟨c0, a, b⟩ := h6.get hE hk
    refine ⟨c0, a, fun j u hu => ?_⟩
    have := b j u hu
    rw [h2.cell]
    rw [List.getElem?_take_of_lt (by have := (List.getElem?_eq_some_iff.1 this).1; simp at this; omega)] at this
    simpa using this
theorem Own.frozen {g cap n : Nat} (h : Own E w base T S (.slice (some ⟨g, 0, none⟩) n cap) xs) (i : Nat) : w.frozen? ⟨g, i, none⟩ = false := by
  rcases h with ⟨h, _⟩ | ⟨g', cap', cur, e, h1, h2, h3, h4, h5, h6⟩
  · cases h
  · injection e with e1 e2 e3
    injection e1 with e1
    injection e1 with e1 _ _
    subst e1
    exact h2.frozen i
theorem Own.form (h : Own E w base T S v xs) (hn : 0 < xs.length) : ∃ g cap, v = .slice (some ⟨g, 0, none⟩) xs.length cap ∧ base ≤ g ∧ g < w.heap.size ∧ xs.length ≤ cap ∧ cap ≤ maxLen := by
  rcases h with ⟨rfl, rfl⟩ | ⟨g', cap', cur, e, h1, h2, h3, h4, h5, h6⟩
  · simp at hn
  · exact ⟨g', cap', e, h1, h2.lt, h3, h4⟩
end

/-- What a slice type's element type is, in the program's tables. -/
structure TyInfo (P : Program) (t T : TypeId) (sz bytes : Nat) : Prop where
  under : P.underlying t = some (.slice T)
  info : ∃ i z, P.info? T = some i ∧ i.zero = some z ∧ i.size = sz ∧ i.bytes = bytes ∧ z.cells.size = sz

section
variable {P : Program} {α : Type} {E : El α} {w : World} {S S2 : BS} {base : Nat} {t T : TypeId} {v y : Value} {xs ys : List α} {bytes : Nat}

/-- 'append(own, ys...)'. -/
theorem own_append (hE : E.Ok) (ht : TyInfo P t T E.size bytes) (ty : TypeId) (hown : Own E w base T S v xs) (hsrc : Sl E w S2 y ys)
    (hg : ∀ g, v.ownBlock = some g → ¬ S g ∧ ∀ cs, RowS w S2 E.size y ys.length cs → Cells E w S2 cs ys → Cells E w (fun k => S2 k ∧ k ≠ g) cs ys)
    (h63 : xs.length + ys.length ≤ maxLen) (hbytes : (xs.length + ys.length) * bytes ≤ 140737488355328) (hbase : base ≤ w.heap.size) :
    ∃ v' w', (Builtin.append_ #[t, t] ty #[v, y]).run P w = .ok v' w' ∧ Own E w' base T (fun k => S k ∨ S2 k) v' (xs ++ ys) ∧ w.grownBy w' v.ownBlock ∧ (v'.ownBlock = v.ownBlock ∨ v'.ownBlock = some w.heap.size) := by
  obtain ⟨i, z, hi, hz, hsize, hby, hzs⟩ := ht.info
  obtain ⟨cs, hrow, hcs⟩ := hown.toRow hE
  obtain ⟨ds, hsr, hds⟩ := hsrc
  obtain ⟨hl, A, c, rfl, _, _, hcell⟩ := hsr
  have hfin : ∀ v' w', w'.ownsRow base T E.size v' (xs.length + ys.length) (cs ++ ds) → w.grownBy w' v.ownBlock → Own E w' base T (fun k => S k ∨ S2 k) v' (xs ++ ys) := by
    intro v' w' h1 h2
    rw [← List.length_append] at h1
    refine Own.ofRow h1 ?_
    have hk : Keep (fun k => v.ownBlock = some k) w w' := (Keep.refl _ _).grown h2 (fun k e _ => e)
    refine Cells.append ?_ ?_
    · exact (hcs.keep hE hk fun k hs e => (hg k e).1 hs).more hE fun _ _ h => .inl h
    · cases hb : v.ownBlock with
      | none =>
        rw [hb] at hk
        exact (hds.keep hE hk fun k _ e => by cases e).more hE fun _ _ h => .inr h
      | some g =>
        rw [hb] at hk
        exact (((hg g hb).2 ds ⟨hl, A, c, rfl, ‹_›, ‹_›, hcell⟩ hds).keep hE hk fun k hs e => hs.2 (by injection e with e; exact e.symm)).more hE fun _ _ h => .inr h.1
  rcases A with _ | ad
  · have hm : ys = [] := by
      rcases Nat.eq_zero_or_pos ys.length with h0 | h0
      · exact List.eq_nil_of_length_eq_zero h0
      · obtain ⟨b, off, h, _⟩ := hcell h0
        cases h
    subst hm
    have hn : ds = [] := List.eq_nil_of_length_eq_zero (by simpa using hl)
    subst hn
    have hrun : (Builtin.append_ #[t, t] ty #[v, .slice none 0 c]).run P w = .ok v w := by
      rcases hrow.2 with ⟨rfl, h0⟩ | ⟨g, cap, cur, rfl, _, _, hnc, _⟩
      · simp [Builtin.append_, run_underlying ht.under, sizeOf, typeInfo, hi, Builtin.lenOf, Builtin.firstCells]
      · simp [Builtin.append_, run_underlying ht.under, sizeOf, typeInfo, hi, Builtin.lenOf, Builtin.firstCells, hnc, storeCells]
    exact ⟨v, w, hrun, hfin v w (by simpa using hrow) (World.grownBy.refl w _), World.grownBy.refl w _, .inl rfl⟩
  · have hcells : ∀ j u, ds[j]? = some u → w.cell? (ad.add j) = some u := by
      intro j u hu
      rcases Nat.eq_zero_or_pos ys.length with h0 | h0
      · have hn : ds = [] := List.eq_nil_of_length_eq_zero (by simp [hl, h0])
        subst hn
        simp at hu
      · obtain ⟨b, off, e, _, _, hc⟩ := hcell h0
        injection e with e
        subst e
        have := hc j u hu
        unfold Addr.add
        split
        · rename_i h0; subst h0; simpa using this
        · exact this
    obtain ⟨v', w', hrun, h2, h3, _, h5⟩ := run_append_own_at (P := P) w base t ty T i z E.size bytes ht.under hi hz hsize hby hzs hE.pos v xs.length cs hrow ad ys.length c ds hl hcells (hds.one hE) h63 hbytes hbase
    exact ⟨v', w', hrun, hfin v' w' h2 h3, h3, h5⟩

/-- In a walk: 'append(own, ys...)', the source apart from the own block. -/
theorem wpList_own_append (w : World) {ops : Array Oper} {rest : List Oper} {o : Oper} {a : Act} {Q : Exit → Act → World → Prop} (hgd : o.guard = none) (s x : Operand)
    (hE : E.Ok) (ht : TyInfo P t T E.size bytes) (ho : o.op = .call { callee := .builtin .append, args := #[s, x], argTypes := #[t, t] })
    (hs : a.eval s = v) (hx : a.eval x = y) (hown : Own E w base T S v xs) (hsrc : Sl E w S2 y ys) (hg : ∀ g, v.ownBlock = some g → ¬ S g ∧ ¬ S2 g)
    (hbytes : (xs.length + ys.length) * bytes ≤ 140737488355328) (h63 : xs.length + ys.length ≤ maxLen) (hbase : base ≤ w.heap.size)
    (h : ∀ v' w', Own E w' base T (fun k => S k ∨ S2 k) v' (xs ++ ys) → Keep (fun k => v.ownBlock = some k) w w' → (v'.ownBlock = v.ownBlock ∨ v'.ownBlock = some w.heap.size) → wpList P ops Q rest (a.put o.dst v') w') : wpList P ops Q (o :: rest) a w := by
  obtain ⟨v', w', hrun, h1, h2, h3⟩ := own_append (P := P) (w := w) hE ht o.type hown hsrc (fun g e => ⟨(hg g e).1, fun cs _ hc => hc.more hE fun k hk hS => ⟨hS, fun e' => (hg g e).2 (e' ▸ hS)⟩⟩) h63 hbytes hbase
  refine wpList_plain hgd fun K hK => ?_
  unfold Oper.wp execOp
  simp only [ho, resolve, invoke, builtin, Sem.run_bind, Sem.run_pure, Result.andThen_ok, List.map_toArray, List.map_cons, List.map_nil, hs, hx, hrun]
  exact hK _ _ (h v' w' h1 ((Keep.refl _ _).grown h2 (fun k e _ => e)) h3)
end
end Go.Proofs.Ytioplgfopillnaa

/- Values as data in memory: a value is five cells, two of which are slices of values and of fields. No program. -/
set_option linter.unusedSimpArgs false
set_option linter.unusedVariables false
namespace Go.Proofs.Ytioplgfopillnaa
open Go.RowKit

mutual
inductive V where
  | mk (kind : UInt8) (n : Int) (s : ByteArray) (l : List V) (o : List F)
inductive F where
  | mk (key : ByteArray) (v : V)
end
def V.kind : V → UInt8 | .mk k _ _ _ _ => k
def V.n : V → Int | .mk _ n _ _ _ => n
def V.s : V → ByteArray | .mk _ _ s _ _ => s
def V.l : V → List V | .mk _ _ _ l _ => l
def V.o : V → List F | .mk _ _ _ _ o => o
def F.key : F → ByteArray | .mk k _ => k
def F.v : F → V | .mk _ v => v

mutual
def rdV (w : World) (S : BS) : V → List Value → Prop
  | .mk k n s l o, cs => ∃ lv ov ls os, cs = [U8 k, .int .i64 n, .string s, lv, ov] ∧ (RowS w S 5 lv l.length ls ∧ rdVs w S l ls) ∧ RowS w S 6 ov o.length os ∧ rdFs w S o os
def rdVs (w : World) (S : BS) : List V → List Value → Prop
  | [], cs => cs = []
  | v :: vs, cs => ∃ c0 c1, cs = c0 ++ c1 ∧ rdV w S v c0 ∧ rdVs w S vs c1
def rdF (w : World) (S : BS) : F → List Value → Prop
  | .mk k v, cs => ∃ c0, cs = .string k :: c0 ∧ rdV w S v c0
def rdFs (w : World) (S : BS) : List F → List Value → Prop
  | [], cs => cs = []
  | f :: fs, cs => ∃ c0 c1, cs = c0 ++ c1 ∧ rdF w S f c0 ∧ rdFs w S fs c1
end
def EVal : El V := { size := 5, rd := fun w S cs v => rdV w S v cs }
def EField : El F := { size := 6, rd := fun w S cs f => rdF w S f cs }

theorem rdVs_cells {w : World} {S : BS} : ∀ (l : List V) (cs : List Value), rdVs w S l cs ↔ Cells EVal w S cs l
  | [], cs => by rw [rdVs, Cells]
  | v :: vs, cs => by
    rw [rdVs, Cells]
    constructor
    · rintro ⟨c0, c1, h1, h2, h3⟩; exact ⟨c0, c1, h1, h2, (rdVs_cells vs c1).1 h3⟩
    · rintro ⟨c0, c1, h1, h2, h3⟩; exact ⟨c0, c1, h1, h2, (rdVs_cells vs c1).2 h3⟩
theorem rdFs_cells {w : World} {S : BS} : ∀ (l : List F) (cs : List Value), rdFs w S l cs ↔ Cells EField w S cs l
  | [], cs => by rw [rdFs, Cells]
  | v :: vs, cs => by
    rw [rdFs, Cells]
    constructor
    · rintro ⟨c0, c1, h1, h2, h3⟩; exact ⟨c0, c1, h1, h2, (rdFs_cells vs c1).1 h3⟩
    · rintro ⟨c0, c1, h1, h2, h3⟩; exact ⟨c0, c1, h1, h2, (rdFs_cells vs c1).2 h3⟩
theorem rdV_iff {w : World} {S : BS} {v : V} {cs : List Value} : rdV w S v cs ↔ ∃ lv ov, cs = [U8 v.kind, .int .i64 v.n, .string v.s, lv, ov] ∧ Sl EVal w S lv v.l ∧ Sl EField w S ov v.o := by
  cases v with
  | mk k n s l o =>
    rw [rdV]
    constructor
    · rintro ⟨lv, ov, ls, os, h1, ⟨h2, h3⟩, h4, h5⟩; exact ⟨lv, ov, h1, ⟨ls, h2, (rdVs_cells _ _).1 h3⟩, ⟨os, h4, (rdFs_cells _ _).1 h5⟩⟩
    · rintro ⟨lv, ov, h1, ⟨ls, h2, h3⟩, ⟨os, h4, h5⟩⟩; exact ⟨lv, ov, ls, os, h1, ⟨h2, (rdVs_cells _ _).2 h3⟩, h4, (rdFs_cells _ _).2 h5⟩
theorem rdF_iff {w : World} {S : BS} {f : F} {cs : List Value} : rdF w S f cs ↔ ∃ c0, cs = .string f.key :: c0 ∧ rdV w S f.v c0 := by
  cases f with
  | mk k v => rw [rdF]; exact Iff.rfl

theorem rdV_len {w : World} {S : BS} {v : V} {cs : List Value} (h : rdV w S v cs) : cs.length = 5 := by
  obtain ⟨lv, ov, rfl, _⟩ := rdV_iff.1 h; rfl
theorem rdV_one {w : World} {S : BS} {v : V} {cs : List Value} (h : rdV w S v cs) : ∀ u ∈ cs, u.oneCell' = true := by
  obtain ⟨lv, ov, rfl, h1, h2⟩ := rdV_iff.1 h
  obtain ⟨A, c, rfl, _⟩ := h1.shape
  obtain ⟨A', c', rfl, _⟩ := h2.shape
  intro u hu
  simp at hu
  rcases hu with rfl | rfl | rfl | rfl | rfl <;> rfl

mutual
theorem rdV_keep {Fr : Nat → Prop} {w w' : World} {S : BS} (hk : Keep Fr w w') (hF : ∀ k, S k → ¬ Fr k) : ∀ (v : V) (cs : List Value), rdV w S v cs → rdV w' S v cs
  | .mk k n s l o, cs, h => by
    rw [rdV] at h ⊢
    obtain ⟨lv, ov, ls, os, h1, ⟨h2, h3⟩, h4, h5⟩ := h
    exact ⟨lv, ov, ls, os, h1, ⟨h2.keep hk hF, rdVs_keep hk hF l ls h3⟩, h4.keep hk hF, rdFs_keep hk hF o os h5⟩
theorem rdVs_keep {Fr : Nat → Prop} {w w' : World} {S : BS} (hk : Keep Fr w w') (hF : ∀ k, S k → ¬ Fr k) : ∀ (l : List V) (cs : List Value), rdVs w S l cs → rdVs w' S l cs
  | [], cs, h => by rw [rdVs] at h ⊢; exact h
  | v :: vs, cs, h => by
    rw [rdVs] at h ⊢
    obtain ⟨c0, c1, h1, h2, h3⟩ := h
    exact ⟨c0, c1, h1, rdV_keep hk hF v c0 h2, rdVs_keep hk hF vs c1 h3⟩
theorem rdF_keep {Fr : Nat → Prop} {w w' : World} {S : BS} (hk : Keep Fr w w') (hF : ∀ k, S k → ¬ Fr k) : ∀ (f : F) (cs : List Value), rdF w S f cs → rdF w' S f cs
  | .mk k v, cs, h => by
    rw [rdF] at h ⊢
    obtain ⟨c0, h1, h2⟩ := h
    exact ⟨c0, h1, rdV_keep hk hF v c0 h2⟩
theorem rdFs_keep {Fr : Nat → Prop} {w w' : World} {S : BS} (hk : Keep Fr w w') (hF : ∀ k, S k → ¬ Fr k) : ∀ (l : List F) (cs : List Value), rdFs w S l cs → rdFs w' S l cs
  | [], cs, h => by rw [rdFs] at h ⊢; exact h
  | f :: fs, cs, h => by
    rw [rdFs] at h ⊢
    obtain ⟨c0, c1, h1, h2, h3⟩ := h
    exact ⟨c0, c1, h1, rdF_keep hk hF f c0 h2, rdFs_keep hk hF fs c1 h3⟩
end
mutual
theorem rdV_more {w : World} {S S' : BS} (hS : ∀ k, k < w.heap.size → S k → S' k) : ∀ (v : V) (cs : List Value), rdV w S v cs → rdV w S' v cs
  | .mk k n s l o, cs, h => by
    rw [rdV] at h ⊢
    obtain ⟨lv, ov, ls, os, h1, ⟨h2, h3⟩, h4, h5⟩ := h
    exact ⟨lv, ov, ls, os, h1, ⟨h2.more hS, rdVs_more hS l ls h3⟩, h4.more hS, rdFs_more hS o os h5⟩
theorem rdVs_more {w : World} {S S' : BS} (hS : ∀ k, k < w.heap.size → S k → S' k) : ∀ (l : List V) (cs : List Value), rdVs w S l cs → rdVs w S' l cs
  | [], cs, h => by rw [rdVs] at h ⊢; exact h
  | v :: vs, cs, h => by
    rw [rdVs] at h ⊢
    obtain ⟨c0, c1, h1, h2, h3⟩ := h
    exact ⟨c0, c1, h1, rdV_more hS v c0 h2, rdVs_more hS vs c1 h3⟩
theorem rdF_more {w : World} {S S' : BS} (hS : ∀ k, k < w.heap.size → S k → S' k) : ∀ (f : F) (cs : List Value), rdF w S f cs → rdF w S' f cs
  | .mk k v, cs, h => by
    rw [rdF] at h ⊢
    obtain ⟨c0, h1, h2⟩ := h
    exact ⟨c0, h1, rdV_more hS v c0 h2⟩
theorem rdFs_more {w : World} {S S' : BS} (hS : ∀ k, k < w.heap.size → S k → S' k) : ∀ (l : List F) (cs : List Value), rdFs w S l cs → rdFs w S' l cs
  | [], cs, h => by rw [rdFs] at h ⊢; exact h
  | f :: fs, cs, h => by
    rw [rdFs] at h ⊢
    obtain ⟨c0, c1, h1, h2, h3⟩ := h
    exact ⟨c0, c1, h1, rdF_more hS f c0 h2, rdFs_more hS fs c1 h3⟩
end
theorem EVal.ok : EVal.Ok where
  pos := by decide
  len := fun h => rdV_len h
  one := fun h => rdV_one h
  keep := fun h hk hF => rdV_keep hk hF _ _ h
  more := fun h hS => rdV_more hS _ _ h
theorem EField.ok : EField.Ok where
  pos := by decide
  len := fun h => by obtain ⟨c0, rfl, h0⟩ := rdF_iff.1 h; rw [List.length_cons, rdV_len h0]; rfl
  one := fun h u hu => by
    obtain ⟨c0, rfl, h0⟩ := rdF_iff.1 h
    rcases List.mem_cons.1 hu with rfl | hu
    · rfl
    · exact rdV_one h0 u hu
  keep := fun h hk hF => rdF_keep hk hF _ _ h
  more := fun h hS => rdF_more hS _ _ h
/-- A value of the language, its data in S. -/
def VAt (w : World) (S : BS) (u : Value) (v : V) : Prop := ∃ lv ov, u = .agg #[U8 v.kind, .int .i64 v.n, .string v.s, lv, ov] ∧ Sl EVal w S lv v.l ∧ Sl EField w S ov v.o
end Go.Proofs.Ytioplgfopillnaa

/- A row of the call's own, the elements of which are overwritten one by one by the same in other memory. No program. -/
set_option linter.unusedSimpArgs false
set_option linter.unusedVariables false
namespace Go.Proofs.Ytioplgfopillnaa
open Go.RowKit

/-- The first j elements have their data in S1, those behind them in S0. -/
def Mix {α : Type} (E : El α) (w : World) (base : Nat) (T : TypeId) (S1 S0 : BS) (v : Value) (xs : List α) (j : Nat) : Prop :=
  (v = .slice none 0 0 ∧ xs = []) ∨
  ∃ g cap cur, v = .slice (some ⟨g, 0, none⟩) xs.length cap ∧ base ≤ g ∧ Blk w g T cur ∧ xs.length ≤ cap ∧ cap ≤ maxLen ∧ cur.size = cap * E.size ∧
    Cells E w S1 (cur.toList.take (j * E.size)) (xs.take j) ∧ Cells E w S0 ((cur.toList.take (xs.length * E.size)).drop (j * E.size)) (xs.drop j)

section
variable {α : Type} {E : El α} {Fr : Nat → Prop} {w w' : World} {S1 S0 : BS} {base : Nat} {T : TypeId} {v : Value} {xs : List α} {j : Nat}
theorem Mix.start (h : Own E w base T S0 v xs) : Mix E w base T S1 S0 v xs 0 := by
  rcases h with h | ⟨g, cap, cur, e, h1, h2, h3, h4, h5, h6⟩
  · exact .inl h
  · exact .inr ⟨g, cap, cur, e, h1, h2, h3, h4, h5, by simp only [Nat.zero_mul, List.take_zero]; rfl, by simpa using h6⟩
theorem Mix.done (h : Mix E w base T S1 S0 v xs xs.length) : Own E w base T S1 v xs := by
  rcases h with h | ⟨g, cap, cur, e, h1, h2, h3, h4, h5, h6, _⟩
  · exact .inl h
  · exact .inr ⟨g, cap, cur, e, h1, h2, h3, h4, h5, by rwa [List.take_length] at h6⟩
theorem Mix.shape (h : Mix E w base T S1 S0 v xs j) : ∃ A c, v = .slice A xs.length c ∧ xs.length ≤ c ∧ c ≤ maxLen := by
  rcases h with ⟨rfl, rfl⟩ | ⟨g', cap, cur, rfl, h1, h2, h3, h4, _⟩
  · exact ⟨none, 0, rfl, by simp, by simp [maxLen]⟩
  · exact ⟨_, cap, rfl, h3, h4⟩
theorem Mix.lt (h : Mix E w base T S1 S0 v xs j) {g : Nat} (hg : v.ownBlock = some g) : base ≤ g ∧ g < w.heap.size := by
  rcases h with ⟨rfl, _⟩ | ⟨g', cap, cur, rfl, h1, h2, _⟩
  · simp [Value.ownBlock] at hg
  · simp [Value.ownBlock] at hg; subst hg; exact ⟨h1, h2.lt⟩
theorem Mix.keep (hE : E.Ok) (h : Mix E w base T S1 S0 v xs j) (hk : Keep Fr w w') (hF1 : ∀ k, S1 k → ¬ Fr k) (hF0 : ∀ k, S0 k → ¬ Fr k) (hg : ∀ g, v.ownBlock = some g → ¬ Fr g) : Mix E w' base T S1 S0 v xs j := by
  rcases h with h | ⟨g', cap, cur, rfl, h1, h2, h3, h4, h5, h6, h7⟩
  · exact .inl h
  · exact .inr ⟨g', cap, cur, rfl, h1, h2.keep hk (hg g' rfl), h3, h4, h5, h6.keep hE hk hF1, h7.keep hE hk hF0⟩
theorem Mix.ext (hE : E.Ok) (h : Mix E w base T S1 S0 v xs j) (hk : Ext w w') : Mix E w' base T S1 S0 v xs j := h.keep hE hk (fun _ _ x => x) (fun _ _ x => x) (fun _ _ x => x)
/-- The next element: its cells; what it comes to when it is overwritten. -/
theorem Mix.next (hE : E.Ok) (h : Mix E w base T S1 S0 v xs j) (hj : j < xs.length) :
    ∃ g cap c0, v = .slice (some ⟨g, 0, none⟩) xs.length cap ∧ base ≤ g ∧ g < w.heap.size ∧ E.rd w S0 c0 xs[j] ∧ (∀ i u, c0[i]? = some u → w.cell? ⟨g, j * E.size + i, none⟩ = some u) ∧ (∀ i, w.frozen? ⟨g, i, none⟩ = false) ∧
      ∀ (w' w'' : World) (c' : List Value), Ext w w' → Keep (· = g) w' w'' → ¬ S1 g → ¬ S0 g → E.rd w'' S1 c' xs[j] →
        (∀ cur, Blk w' g T cur → j * E.size + E.size ≤ cur.size → c0 = (cur.toList.drop (j * E.size)).take E.size → ∃ cur', Blk w'' g T cur' ∧ cur'.toList = cur.toList.take (j * E.size) ++ c' ++ cur.toList.drop (j * E.size + E.size)) → Mix E w'' base T S1 S0 v xs (j + 1) := by
  rcases h with ⟨_, rfl⟩ | ⟨g, cap, cur, rfl, h1, h2, h3, h4, h5, h6, h7⟩
  · simp at hj
  have hj1 : j * E.size + E.size ≤ xs.length * E.size := by rw [← Nat.succ_mul]; exact Nat.mul_le_mul_right _ hj
  have hj2 : xs.length * E.size ≤ cap * E.size := Nat.mul_le_mul_right _ h3
  have hcl : cur.toList.length = cap * E.size := by simpa using h5
  have h7' := h7
  rw [List.drop_eq_getElem_cons hj] at h7'
  obtain ⟨c0, c1, e, hrd, hrest⟩ := h7'
  have hl0 := hE.len hrd
  have hc0 : c0 = (cur.toList.drop (j * E.size)).take E.size := by
    have : ((cur.toList.take (xs.length * E.size)).drop (j * E.size)).take E.size = c0 := by rw [e]; exact List.take_left' hl0
    rw [← this, List.drop_take, List.take_take, Nat.min_eq_left (by omega)]
  have hc1 : c1 = (cur.toList.take (xs.length * E.size)).drop (j * E.size + E.size) := by
    rw [← List.drop_drop, e]; exact (List.drop_left' hl0).symm
  refine ⟨g, cap, c0, rfl, h1, h2.lt, hrd, fun i u hu => ?_, fun i => h2.frozen i, fun w' w'' c' hE' hk hS1 hS0 hrd' hupd => ?_⟩
  · rw [h2.cell]
    rw [hc0, List.getElem?_take] at hu
    split at hu
    · rw [List.getElem?_drop] at hu; simpa using hu
    · cases hu
  · obtain ⟨cur', hb', hcur'⟩ := hupd cur (h2.keep hE' id) (by omega) hc0
    have hlen' := hE.len hrd'
    have hc'l : cur'.size = cap * E.size := by
      have : cur'.toList.length = cap * E.size := by rw [hcur']; simp only [List.length_append, List.length_take, List.length_drop, hlen', hcl]; omega
      simpa using this
    refine .inr ⟨g, cap, cur', rfl, h1, hb', h3, h4, hc'l, ?_, ?_⟩
    · rw [hcur', Nat.succ_mul, List.take_left' (by simp only [List.length_append, List.length_take, List.length_drop, hlen', hcl]; omega), ← List.take_append_getElem hj]
      exact ((h6.keep hE hE' fun _ _ x => x).keep hE hk (fun k hk e => hS1 (e ▸ hk))).append (Cells.single hrd')
    · have : (cur'.toList.take (xs.length * E.size)).drop ((j + 1) * E.size) = c1 := by
        rw [hc1, hcur', Nat.succ_mul]
        apply List.ext_getElem?
        intro i
        rw [List.getElem?_drop, List.getElem?_drop, List.getElem?_take, List.getElem?_take]
        split
        · rw [List.getElem?_append_right (by simp only [List.length_append, List.length_take, List.length_drop, hlen', hcl]; omega), List.getElem?_drop]
          congr 1
          simp only [List.length_append, List.length_take, List.length_drop, hlen', hcl]; omega
        · rfl
      rw [this]
      exact (hrest.keep hE hE' fun _ _ x => x).keep hE hk (fun k hk e => hS0 (e ▸ hk))
end
end Go.Proofs.Ytioplgfopillnaa
