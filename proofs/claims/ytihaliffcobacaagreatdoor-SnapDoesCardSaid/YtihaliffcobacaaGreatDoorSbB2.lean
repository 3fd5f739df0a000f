/- Own, ValD, Mix, ValA, Toks, RecS, OpRs, EncP, TyU8, Conv: laid together. -/
import Derived.Test.YtihaliffcobacaaGreatDoorSbB1
import Derived.Laws.CopyRow
import Derived.RegionTactic
import Derived.OwnWalk
import Derived.Test.YtihaliffcobacaaGreatDoorRows
import Derived.WalkKit
import Derived.WalkSpells
import Derived.Laws.BytesArg
set_option linter.unusedSimpArgs false
set_option linter.unusedVariables false
set_option maxHeartbeats 25600000
set_option maxRecDepth 20000
namespace Go.Proofs.YtihaliffcobacaaGreatDoor
open Go.RowKit
def Own {α : Type} (E : El α) (w : World) (base : Nat) (T : TypeId) (S : BS) (v : Value) (xs : List α) : Prop :=
 (v = .slice none 0 0 ∧ xs = []) ∨
 ∃ g cap cur, v = .slice (some ⟨g, 0, none⟩) xs.length cap ∧ base ≤ g ∧ Blk w g T cur ∧ xs.length ≤ cap ∧ cap ≤ maxLen ∧ cur.size = cap * E.size ∧ Cells E w S (cur.toList.take (xs.length * E.size)) xs
theorem Blk.setRow {w : World} {g : Nat} {t : TypeId} {cs : Array Value} (h : Blk w g t cs) (cs' : Array Value) : Blk (w.setRow g cs') g t cs' := setRow_heap w g cs cs' t (0, 0) h
theorem Keep.setRow {F : Nat → Prop} {a w : World} (h : Keep F a w) {g : Nat} (hg : g < a.heap.size → F g) (cs : Array Value) : Keep F a (w.setRow g cs) :=
 h.trans (G := fun k => k = g) ⟨rfl, rfl, rfl, by simp, fun k _ hn => setRow_other w g k cs hn⟩ (fun k hk e => by subst e; exact hg hk)
section
variable {α : Type} {E : El α} {F : Nat → Prop} {w w' : World} {S S' : BS} {base : Nat} {T : TypeId} {v : Value} {xs : List α}
theorem Own.nil (w : World) (base : Nat) (T : TypeId) (S : BS) : Own E w base T S (.slice none 0 0) [] := .inl ⟨rfl, rfl⟩
theorem Own.lt (h : Own E w base T S v xs) {g : Nat} (hg : v.ownBlock = some g) : base ≤ g ∧ g < w.heap.size := by
 rcases h with ⟨rfl, _⟩ | ⟨g', cap, cur, rfl, h1, h2, _⟩
 ·simp [Value.ownBlock] at hg
 ·simp [Value.ownBlock] at hg; subst hg; exact ⟨h1, h2.lt⟩
theorem Own.shape (h : Own E w base T S v xs) : ∃ A c, v = .slice A xs.length c ∧ xs.length ≤ c ∧ c ≤ maxLen := by
 rcases h with ⟨rfl, rfl⟩ | ⟨g', cap, cur, rfl, h1, h2, h3, h4, _⟩
 ·exact ⟨none, 0, rfl, by simp, by simp [maxLen]⟩
 ·exact ⟨_, cap, rfl, h3, h4⟩
theorem Own.keep (hE : E.Ok) (h : Own E w base T S v xs) (hk : Keep F w w') (hF : ∀ k, S k → ¬ F k) (hg : ∀ g, v.ownBlock = some g → ¬ F g) : Own E w' base T S v xs := by
 rcases h with h | ⟨g', cap, cur, rfl, h1, h2, h3, h4, h5, h6⟩
 ·exact .inl h
 ·exact .inr ⟨g', cap, cur, rfl, h1, h2.keep hk (hg g' rfl), h3, h4, h5, h6.keep hE hk hF⟩
theorem Own.ext (hE : E.Ok) (h : Own E w base T S v xs) (hk : Ext w w') : Own E w' base T S v xs := h.keep hE hk (fun _ _ x => x) (fun _ _ x => x)
theorem Own.more (hE : E.Ok) (h : Own E w base T S v xs) (hS : ∀ k, k < w.heap.size → S k → S' k) : Own E w base T S' v xs := by
 rcases h with h | ⟨g', cap, cur, rfl, h1, h2, h3, h4, h5, h6⟩
 ·exact .inl h
 ·exact .inr ⟨g', cap, cur, rfl, h1, h2, h3, h4, h5, h6.more hE hS⟩
theorem Own.less {b' : Nat} (h : Own E w base T S v xs) (hb : b' ≤ base) : Own E w b' T S v xs := by
 rcases h with h | ⟨g', cap, cur, rfl, h1, h2⟩
 ·exact .inl h
 ·exact .inr ⟨g', cap, cur, rfl, by omega, h2⟩
theorem Own.rowS (hE : E.Ok) (h : Own E w base T S v xs) : ∃ cs, RowS w (fun k => v.ownBlock = some k) E.size v xs.length cs ∧ Cells E w S cs xs := by
 rcases h with ⟨rfl, rfl⟩ | ⟨g', cap, cur, rfl, h1, h2, h3, h4, h5, h6⟩
 ·exact ⟨[], RowS.nil _ _ _, rfl⟩
 ·refine ⟨_, ⟨h6.len hE, _, cap, rfl, h3, h4, fun _ => ⟨g', 0, rfl, rfl, h2.lt, fun j u hu => ?_⟩⟩, h6⟩
  rw [Nat.zero_add, h2.cell]
  have hj := (List.getElem?_eq_some_iff.1 hu).1
  rw [List.getElem?_take_of_lt (by simp at hj; omega)] at hu
  simpa using hu
theorem Own.sl (hE : E.Ok) (h : Own E w base T S v xs) : Sl E w (fun k => S k ∨ v.ownBlock = some k) v xs := by
 obtain ⟨cs, h1, h2⟩ := h.rowS hE
 exact ⟨cs, h1.more fun _ _ h => .inr h, h2.more hE fun _ _ h => .inl h⟩
theorem Own.toRow (hE : E.Ok) (h : Own E w base T S v xs) : ∃ cs, w.ownsRow base T E.size v xs.length cs ∧ Cells E w S cs xs := by
 rcases h with ⟨rfl, rfl⟩ | ⟨g', cap, cur, rfl, h1, h2, h3, h4, h5, h6⟩
 ·exact ⟨[], World.ownsRow_nil _ _ _ _, rfl⟩
 ·exact ⟨_, ⟨h6.len hE, .inr ⟨g', cap, cur, rfl, h1, h2, h3, h4, h5, rfl⟩⟩, h6⟩
theorem Own.ofRow {cs : List Value} (h : w.ownsRow base T E.size v xs.length cs) (h6 : Cells E w S cs xs) : Own E w base T S v xs := by
 rcases h.2 with ⟨rfl, h0⟩ | ⟨g, cap, cur, rfl, hg, hh, hnc, hcap, hsz, htk⟩
 ·exact .inl ⟨rfl, List.eq_nil_of_length_eq_zero h0⟩
 ·exact .inr ⟨g, cap, cur, rfl, hg, hh, hnc, hcap, hsz, by rw [htk]; exact h6⟩
theorem Own.at_ (hE : E.Ok) {g cap : Nat} {n : Nat} (h : Own E w base T S (.slice (some ⟨g, 0, none⟩) n cap) xs) {k : Nat} (hk : k < xs.length) :
  ∃ c0, E.rd w S c0 xs[k] ∧ ∀ j u, c0[j]? = some u → w.cell? ⟨g, k * E.size + j, none⟩ = some u := by
 rcases h with ⟨h, _⟩ | ⟨g', cap', cur, e, h1, h2, h3, h4, h5, h6⟩
 ·cases h
 ·injection e with e1 e2 e3
  injection e1 with e1
  injection e1 with e1 _ _
  subst e1
  obtain ⟨c0, a, b⟩ := h6.get hE hk
  refine ⟨c0, a, fun j u hu => ?_⟩
  have := b j u hu
  rw [h2.cell]
  rw [List.getElem?_take_of_lt (by have := (List.getElem?_eq_some_iff.1 this).1; simp at this; omega)] at this
  simpa using this
theorem Own.frozen {g cap n : Nat} (h : Own E w base T S (.slice (some ⟨g, 0, none⟩) n cap) xs) (i : Nat) : w.frozen? ⟨g, i, none⟩ = false := by
 rcases h with ⟨h, _⟩ | ⟨g', cap', cur, e, h1, h2, h3, h4, h5, h6⟩
 ·cases h
 ·injection e with e1 e2 e3
  injection e1 with e1
  injection e1 with e1 _ _
  subst e1
  exact h2.frozen i
theorem Own.form (h : Own E w base T S v xs) (hn : 0 < xs.length) : ∃ g cap, v = .slice (some ⟨g, 0, none⟩) xs.length cap ∧ base ≤ g ∧ g < w.heap.size ∧ xs.length ≤ cap ∧ cap ≤ maxLen := by
 rcases h with ⟨rfl, rfl⟩ | ⟨g', cap', cur, e, h1, h2, h3, h4, h5, h6⟩
 ·simp at hn
 ·exact ⟨g', cap', e, h1, h2.lt, h3, h4⟩
end
structure TyInfo (P : Program) (t T : TypeId) (sz bytes : Nat) : Prop where
 under : P.underlying t = some (.slice T)
 info : ∃ i z, P.info? T = some i ∧ i.zero = some z ∧ i.size = sz ∧ i.bytes = bytes ∧ z.cells.size = sz
section
variable {P : Program} {α : Type} {E : El α} {w : World} {S S2 : BS} {base : Nat} {t T : TypeId} {v y : Value} {xs ys : List α} {bytes : Nat}
theorem own_append (hE : E.Ok) (ht : TyInfo P t T E.size bytes) (ty : TypeId) (hown : Own E w base T S v xs) (hsrc : Sl E w S2 y ys)
  (hg : ∀ g, v.ownBlock = some g → ¬ S g ∧ ∀ cs, RowS w S2 E.size y ys.length cs → Cells E w S2 cs ys → Cells E w (fun k => S2 k ∧ k ≠ g) cs ys)
  (h63 : xs.length + ys.length ≤ maxLen) (hbytes : (xs.length + ys.length) * bytes ≤ 140737488355328) (hbase : base ≤ w.heap.size) :
  ∃ v' w', (Builtin.append_ #[t, t] ty #[v, y]).run P w = .ok v' w' ∧ Own E w' base T (fun k => S k ∨ S2 k) v' (xs ++ ys) ∧ w.grownBy w' v.ownBlock ∧ (v'.ownBlock = v.ownBlock ∨ v'.ownBlock = some w.heap.size) := by
 obtain ⟨i, z, hi, hz, hsize, hby, hzs⟩ := ht.info
 obtain ⟨cs, hrow, hcs⟩ := hown.toRow hE
 obtain ⟨ds, hsr, hds⟩ := hsrc
 obtain ⟨hl, A, c, rfl, _, _, hcell⟩ := hsr
 have hfin : ∀ v' w', w'.ownsRow base T E.size v' (xs.length + ys.length) (cs ++ ds) → w.grownBy w' v.ownBlock → Own E w' base T (fun k => S k ∨ S2 k) v' (xs ++ ys) := by
  intro v' w' h1 h2
  rw [← List.length_append] at h1
  refine Own.ofRow h1 ?_
  have hk : Keep (fun k => v.ownBlock = some k) w w' := (Keep.refl _ _).grown h2 (fun k e _ => e)
  refine Cells.append ?_ ?_
  ·exact (hcs.keep hE hk fun k hs e => (hg k e).1 hs).more hE fun _ _ h => .inl h
  ·cases hb : v.ownBlock with
   | none =>
    rw [hb] at hk
    exact (hds.keep hE hk fun k _ e => by cases e).more hE fun _ _ h => .inr h
   | some g =>
    rw [hb] at hk
    exact (((hg g hb).2 ds ⟨hl, A, c, rfl, ‹_›, ‹_›, hcell⟩ hds).keep hE hk fun k hs e => hs.2 (by injection e with e; exact e.symm)).more hE fun _ _ h => .inr h.1
 rcases A with _ | ad
 ·have hm : ys = [] := by
   rcases Nat.eq_zero_or_pos ys.length with h0 | h0
   ·exact List.eq_nil_of_length_eq_zero h0
   ·obtain ⟨b, off, h, _⟩ := hcell h0
    cases h
  subst hm
  have hn : ds = [] := List.eq_nil_of_length_eq_zero (by simpa using hl)
  subst hn
  have hrun : (Builtin.append_ #[t, t] ty #[v, .slice none 0 c]).run P w = .ok v w := by
   rcases hrow.2 with ⟨rfl, h0⟩ | ⟨g, cap, cur, rfl, _, _, hnc, _⟩
   ·simp [Builtin.append_, run_underlying ht.under, sizeOf, typeInfo, hi, Builtin.lenOf, Builtin.firstCells]
   ·simp [Builtin.append_, run_underlying ht.under, sizeOf, typeInfo, hi, Builtin.lenOf, Builtin.firstCells, hnc, storeCells]
  exact ⟨v, w, hrun, hfin v w (by simpa using hrow) (World.grownBy.refl w _), World.grownBy.refl w _, .inl rfl⟩
 ·have hcells : ∀ j u, ds[j]? = some u → w.cell? (ad.add j) = some u := by
   intro j u hu
   rcases Nat.eq_zero_or_pos ys.length with h0 | h0
   ·have hn : ds = [] := List.eq_nil_of_length_eq_zero (by simp [hl, h0])
    subst hn
    simp at hu
   ·obtain ⟨b, off, e, _, _, hc⟩ := hcell h0
    injection e with e
    subst e
    have := hc j u hu
    unfold Addr.add
    split
    ·rename_i h0; subst h0; simpa using this
    ·exact this
  obtain ⟨v', w', hrun, h2, h3, _, h5⟩ := run_append_own_at (P := P) w base t ty T i z E.size bytes ht.under hi hz hsize hby hzs hE.pos v xs.length cs hrow ad ys.length c ds hl hcells (hds.one hE) h63 hbytes hbase
  exact ⟨v', w', hrun, hfin v' w' h2 h3, h3, h5⟩
theorem wpList_own_append (w : World) {ops : Array Oper} {rest : List Oper} {o : Oper} {a : Act} {Q : Exit → Act → World → Prop} (hgd : o.guard = none) (s x : Operand)
  (hE : E.Ok) (ht : TyInfo P t T E.size bytes) (ho : o.op = .call { callee := .builtin .append, args := #[s, x], argTypes := #[t, t] })
  (hs : a.eval s = v) (hx : a.eval x = y) (hown : Own E w base T S v xs) (hsrc : Sl E w S2 y ys) (hg : ∀ g, v.ownBlock = some g → ¬ S g ∧ ¬ S2 g)
  (hbytes : (xs.length + ys.length) * bytes ≤ 140737488355328) (h63 : xs.length + ys.length ≤ maxLen) (hbase : base ≤ w.heap.size)
  (h : ∀ v' w', Own E w' base T (fun k => S k ∨ S2 k) v' (xs ++ ys) → Keep (fun k => v.ownBlock = some k) w w' → (v'.ownBlock = v.ownBlock ∨ v'.ownBlock = some w.heap.size) → wpList P ops Q rest (a.put o.dst v') w') : wpList P ops Q (o :: rest) a w := by
 obtain ⟨v', w', hrun, h1, h2, h3⟩ := own_append (P := P) (w := w) hE ht o.type hown hsrc (fun g e => ⟨(hg g e).1, fun cs _ hc => hc.more hE fun k hk hS => ⟨hS, fun e' => (hg g e).2 (e' ▸ hS)⟩⟩) h63 hbytes hbase
 refine wpList_plain hgd fun K hK => ?_
 unfold Oper.wp execOp
 simp only [ho, resolve, invoke, builtin, Sem.run_bind, Sem.run_pure, Result.andThen_ok, List.map_toArray, List.map_cons, List.map_nil, hs, hx, hrun]
 exact hK _ _ (h v' w' h1 ((Keep.refl _ _).grown h2 (fun k e _ => e)) h3)
end
mutual
inductive V where
 | mk (kind : UInt8) (n : Int) (s : ByteArray) (l : List V) (o : List F)
inductive F where
 | mk (key : ByteArray) (v : V)
end
def V.kind : V → UInt8 | .mk k _ _ _ _ => k
def V.n : V → Int | .mk _ n _ _ _ => n
def V.s : V → ByteArray | .mk _ _ s _ _ => s
def V.l : V → List V | .mk _ _ _ l _ => l
def V.o : V → List F | .mk _ _ _ _ o => o
def F.key : F → ByteArray | .mk k _ => k
def F.v : F → V | .mk _ v => v
mutual
def rdV (w : World) (S : BS) : V → List Value → Prop
 | .mk k n s l o, cs => ∃ lv ov ls os, cs = [U8 k, .int .i64 n, .string s, lv, ov] ∧ (RowS w S 5 lv l.length ls ∧ rdVs w S l ls) ∧ RowS w S 6 ov o.length os ∧ rdFs w S o os
def rdVs (w : World) (S : BS) : List V → List Value → Prop
 | [], cs => cs = []
 | v :: vs, cs => ∃ c0 c1, cs = c0 ++ c1 ∧ rdV w S v c0 ∧ rdVs w S vs c1
def rdF (w : World) (S : BS) : F → List Value → Prop
 | .mk k v, cs => ∃ c0, cs = .string k :: c0 ∧ rdV w S v c0
def rdFs (w : World) (S : BS) : List F → List Value → Prop
 | [], cs => cs = []
 | f :: fs, cs => ∃ c0 c1, cs = c0 ++ c1 ∧ rdF w S f c0 ∧ rdFs w S fs c1
end
def EVal : El V := { size := 5, rd := fun w S cs v => rdV w S v cs }
def EField : El F := { size := 6, rd := fun w S cs f => rdF w S f cs }
theorem rdVs_cells {w : World} {S : BS} : ∀ (l : List V) (cs : List Value), rdVs w S l cs ↔ Cells EVal w S cs l
 | [], cs => by rw [rdVs, Cells]
 | v :: vs, cs => by
  rw [rdVs, Cells]
  constructor
  ·rintro ⟨c0, c1, h1, h2, h3⟩; exact ⟨c0, c1, h1, h2, (rdVs_cells vs c1).1 h3⟩
  ·rintro ⟨c0, c1, h1, h2, h3⟩; exact ⟨c0, c1, h1, h2, (rdVs_cells vs c1).2 h3⟩
theorem rdFs_cells {w : World} {S : BS} : ∀ (l : List F) (cs : List Value), rdFs w S l cs ↔ Cells EField w S cs l
 | [], cs => by rw [rdFs, Cells]
 | v :: vs, cs => by
  rw [rdFs, Cells]
  constructor
  ·rintro ⟨c0, c1, h1, h2, h3⟩; exact ⟨c0, c1, h1, h2, (rdFs_cells vs c1).1 h3⟩
  ·rintro ⟨c0, c1, h1, h2, h3⟩; exact ⟨c0, c1, h1, h2, (rdFs_cells vs c1).2 h3⟩
theorem rdV_iff {w : World} {S : BS} {v : V} {cs : List Value} : rdV w S v cs ↔ ∃ lv ov, cs = [U8 v.kind, .int .i64 v.n, .string v.s, lv, ov] ∧ Sl EVal w S lv v.l ∧ Sl EField w S ov v.o := by
 cases v with
 | mk k n s l o =>
  rw [rdV]
  constructor
  ·rintro ⟨lv, ov, ls, os, h1, ⟨h2, h3⟩, h4, h5⟩; exact ⟨lv, ov, h1, ⟨ls, h2, (rdVs_cells _ _).1 h3⟩, ⟨os, h4, (rdFs_cells _ _).1 h5⟩⟩
  ·rintro ⟨lv, ov, h1, ⟨ls, h2, h3⟩, ⟨os, h4, h5⟩⟩; exact ⟨lv, ov, ls, os, h1, ⟨h2, (rdVs_cells _ _).2 h3⟩, h4, (rdFs_cells _ _).2 h5⟩
theorem rdF_iff {w : World} {S : BS} {f : F} {cs : List Value} : rdF w S f cs ↔ ∃ c0, cs = .string f.key :: c0 ∧ rdV w S f.v c0 := by
 cases f with
 | mk k v => rw [rdF]; exact Iff.rfl
theorem rdV_len {w : World} {S : BS} {v : V} {cs : List Value} (h : rdV w S v cs) : cs.length = 5 := by
 obtain ⟨lv, ov, rfl, _⟩ := rdV_iff.1 h; rfl
theorem rdV_one {w : World} {S : BS} {v : V} {cs : List Value} (h : rdV w S v cs) : ∀ u ∈ cs, u.oneCell' = true := by
 obtain ⟨lv, ov, rfl, h1, h2⟩ := rdV_iff.1 h
 obtain ⟨A, c, rfl, _⟩ := h1.shape
 obtain ⟨A', c', rfl, _⟩ := h2.shape
 intro u hu
 simp at hu
 rcases hu with rfl | rfl | rfl | rfl | rfl <;> rfl
mutual
theorem rdV_keep {Fr : Nat → Prop} {w w' : World} {S : BS} (hk : Keep Fr w w') (hF : ∀ k, S k → ¬ Fr k) : ∀ (v : V) (cs : List Value), rdV w S v cs → rdV w' S v cs
 | .mk k n s l o, cs, h => by
  rw [rdV] at h ⊢
  obtain ⟨lv, ov, ls, os, h1, ⟨h2, h3⟩, h4, h5⟩ := h
  exact ⟨lv, ov, ls, os, h1, ⟨h2.keep hk hF, rdVs_keep hk hF l ls h3⟩, h4.keep hk hF, rdFs_keep hk hF o os h5⟩
theorem rdVs_keep {Fr : Nat → Prop} {w w' : World} {S : BS} (hk : Keep Fr w w') (hF : ∀ k, S k → ¬ Fr k) : ∀ (l : List V) (cs : List Value), rdVs w S l cs → rdVs w' S l cs
 | [], cs, h => by rw [rdVs] at h ⊢; exact h
 | v :: vs, cs, h => by
  rw [rdVs] at h ⊢
  obtain ⟨c0, c1, h1, h2, h3⟩ := h
  exact ⟨c0, c1, h1, rdV_keep hk hF v c0 h2, rdVs_keep hk hF vs c1 h3⟩
theorem rdF_keep {Fr : Nat → Prop} {w w' : World} {S : BS} (hk : Keep Fr w w') (hF : ∀ k, S k → ¬ Fr k) : ∀ (f : F) (cs : List Value), rdF w S f cs → rdF w' S f cs
 | .mk k v, cs, h => by
  rw [rdF] at h ⊢
  obtain ⟨c0, h1, h2⟩ := h
  exact ⟨c0, h1, rdV_keep hk hF v c0 h2⟩
theorem rdFs_keep {Fr : Nat → Prop} {w w' : World} {S : BS} (hk : Keep Fr w w') (hF : ∀ k, S k → ¬ Fr k) : ∀ (l : List F) (cs : List Value), rdFs w S l cs → rdFs w' S l cs
 | [], cs, h => by rw [rdFs] at h ⊢; exact h
 | f :: fs, cs, h => by
  rw [rdFs] at h ⊢
  obtain ⟨c0, c1, h1, h2, h3⟩ := h
  exact ⟨c0, c1, h1, rdF_keep hk hF f c0 h2, rdFs_keep hk hF fs c1 h3⟩
end
mutual
theorem rdV_more {w : World} {S S' : BS} (hS : ∀ k, k < w.heap.size → S k → S' k) : ∀ (v : V) (cs : List Value), rdV w S v cs → rdV w S' v cs
 | .mk k n s l o, cs, h => by
  rw [rdV] at h ⊢
  obtain ⟨lv, ov, ls, os, h1, ⟨h2, h3⟩, h4, h5⟩ := h
  exact ⟨lv, ov, ls, os, h1, ⟨h2.more hS, rdVs_more hS l ls h3⟩, h4.more hS, rdFs_more hS o os h5⟩
theorem rdVs_more {w : World} {S S' : BS} (hS : ∀ k, k < w.heap.size → S k → S' k) : ∀ (l : List V) (cs : List Value), rdVs w S l cs → rdVs w S' l cs
 | [], cs, h => by rw [rdVs] at h ⊢; exact h
 | v :: vs, cs, h => by
  rw [rdVs] at h ⊢
  obtain ⟨c0, c1, h1, h2, h3⟩ := h
  exact ⟨c0, c1, h1, rdV_more hS v c0 h2, rdVs_more hS vs c1 h3⟩
theorem rdF_more {w : World} {S S' : BS} (hS : ∀ k, k < w.heap.size → S k → S' k) : ∀ (f : F) (cs : List Value), rdF w S f cs → rdF w S' f cs
 | .mk k v, cs, h => by
  rw [rdF] at h ⊢
  obtain ⟨c0, h1, h2⟩ := h
  exact ⟨c0, h1, rdV_more hS v c0 h2⟩
theorem rdFs_more {w : World} {S S' : BS} (hS : ∀ k, k < w.heap.size → S k → S' k) : ∀ (l : List F) (cs : List Value), rdFs w S l cs → rdFs w S' l cs
 | [], cs, h => by rw [rdFs] at h ⊢; exact h
 | f :: fs, cs, h => by
  rw [rdFs] at h ⊢
  obtain ⟨c0, c1, h1, h2, h3⟩ := h
  exact ⟨c0, c1, h1, rdF_more hS f c0 h2, rdFs_more hS fs c1 h3⟩
end
theorem EVal.ok : EVal.Ok where
 pos := by decide
 len := fun h => rdV_len h
 one := fun h => rdV_one h
 keep := fun h hk hF => rdV_keep hk hF _ _ h
 more := fun h hS => rdV_more hS _ _ h
theorem EField.ok : EField.Ok where
 pos := by decide
 len := fun h => by obtain ⟨c0, rfl, h0⟩ := rdF_iff.1 h; rw [List.length_cons, rdV_len h0]; rfl
 one := fun h u hu => by
  obtain ⟨c0, rfl, h0⟩ := rdF_iff.1 h
  rcases List.mem_cons.1 hu with rfl | hu
  ·rfl
  ·exact rdV_one h0 u hu
 keep := fun h hk hF => rdF_keep hk hF _ _ h
 more := fun h hS => rdF_more hS _ _ h
def VAt (w : World) (S : BS) (u : Value) (v : V) : Prop := ∃ lv ov, u = .agg #[U8 v.kind, .int .i64 v.n, .string v.s, lv, ov] ∧ Sl EVal w S lv v.l ∧ Sl EField w S ov v.o
def Mix {α : Type} (E : El α) (w : World) (base : Nat) (T : TypeId) (S1 S0 : BS) (v : Value) (xs : List α) (j : Nat) : Prop :=
 (v = .slice none 0 0 ∧ xs = []) ∨
 ∃ g cap cur, v = .slice (some ⟨g, 0, none⟩) xs.length cap ∧ base ≤ g ∧ Blk w g T cur ∧ xs.length ≤ cap ∧ cap ≤ maxLen ∧ cur.size = cap * E.size ∧
  Cells E w S1 (cur.toList.take (j * E.size)) (xs.take j) ∧ Cells E w S0 ((cur.toList.take (xs.length * E.size)).drop (j * E.size)) (xs.drop j)
section
variable {α : Type} {E : El α} {Fr : Nat → Prop} {w w' : World} {S1 S0 : BS} {base : Nat} {T : TypeId} {v : Value} {xs : List α} {j : Nat}
theorem Mix.done (h : Mix E w base T S1 S0 v xs xs.length) : Own E w base T S1 v xs := by
 rcases h with h | ⟨g, cap, cur, e, h1, h2, h3, h4, h5, h6, _⟩
 ·exact .inl h
 ·exact .inr ⟨g, cap, cur, e, h1, h2, h3, h4, h5, by rwa [List.take_length] at h6⟩
theorem Mix.shape (h : Mix E w base T S1 S0 v xs j) : ∃ A c, v = .slice A xs.length c ∧ xs.length ≤ c ∧ c ≤ maxLen := by
 rcases h with ⟨rfl, rfl⟩ | ⟨g', cap, cur, rfl, h1, h2, h3, h4, _⟩
 ·exact ⟨none, 0, rfl, by simp, by simp [maxLen]⟩
 ·exact ⟨_, cap, rfl, h3, h4⟩
theorem Mix.lt (h : Mix E w base T S1 S0 v xs j) {g : Nat} (hg : v.ownBlock = some g) : base ≤ g ∧ g < w.heap.size := by
 rcases h with ⟨rfl, _⟩ | ⟨g', cap, cur, rfl, h1, h2, _⟩
 ·simp [Value.ownBlock] at hg
 ·simp [Value.ownBlock] at hg; subst hg; exact ⟨h1, h2.lt⟩
theorem Mix.keep (hE : E.Ok) (h : Mix E w base T S1 S0 v xs j) (hk : Keep Fr w w') (hF1 : ∀ k, S1 k → ¬ Fr k) (hF0 : ∀ k, S0 k → ¬ Fr k) (hg : ∀ g, v.ownBlock = some g → ¬ Fr g) : Mix E w' base T S1 S0 v xs j := by
 rcases h with h | ⟨g', cap, cur, rfl, h1, h2, h3, h4, h5, h6, h7⟩
 ·exact .inl h
 ·exact .inr ⟨g', cap, cur, rfl, h1, h2.keep hk (hg g' rfl), h3, h4, h5, h6.keep hE hk hF1, h7.keep hE hk hF0⟩
theorem Mix.ext (hE : E.Ok) (h : Mix E w base T S1 S0 v xs j) (hk : Ext w w') : Mix E w' base T S1 S0 v xs j := h.keep hE hk (fun _ _ x => x) (fun _ _ x => x) (fun _ _ x => x)
theorem Mix.next (hE : E.Ok) (h : Mix E w base T S1 S0 v xs j) (hj : j < xs.length) :
  ∃ g cap c0, v = .slice (some ⟨g, 0, none⟩) xs.length cap ∧ base ≤ g ∧ g < w.heap.size ∧ E.rd w S0 c0 xs[j] ∧ (∀ i u, c0[i]? = some u → w.cell? ⟨g, j * E.size + i, none⟩ = some u) ∧ (∀ i, w.frozen? ⟨g, i, none⟩ = false) ∧
   ∀ (w' w'' : World) (c' : List Value), Ext w w' → Keep (· = g) w' w'' → ¬ S1 g → ¬ S0 g → E.rd w'' S1 c' xs[j] →
    (∀ cur, Blk w' g T cur → j * E.size + E.size ≤ cur.size → c0 = (cur.toList.drop (j * E.size)).take E.size → ∃ cur', Blk w'' g T cur' ∧ cur'.toList = cur.toList.take (j * E.size) ++ c' ++ cur.toList.drop (j * E.size + E.size)) → Mix E w'' base T S1 S0 v xs (j + 1) := by
 rcases h with ⟨_, rfl⟩ | ⟨g, cap, cur, rfl, h1, h2, h3, h4, h5, h6, h7⟩
 ·simp at hj
 have hj1 : j * E.size + E.size ≤ xs.length * E.size := by rw [← Nat.succ_mul]; exact Nat.mul_le_mul_right _ hj
 have hj2 : xs.length * E.size ≤ cap * E.size := Nat.mul_le_mul_right _ h3
 have hcl : cur.toList.length = cap * E.size := by simpa using h5
 have h7' := h7
 rw [List.drop_eq_getElem_cons hj] at h7'
 obtain ⟨c0, c1, e, hrd, hrest⟩ := h7'
 have hl0 := hE.len hrd
 have hc0 : c0 = (cur.toList.drop (j * E.size)).take E.size := by
  have : ((cur.toList.take (xs.length * E.size)).drop (j * E.size)).take E.size = c0 := by rw [e]; exact List.take_left' hl0
  rw [← this, List.drop_take, List.take_take, Nat.min_eq_left (by omega)]
 have hc1 : c1 = (cur.toList.take (xs.length * E.size)).drop (j * E.size + E.size) := by
  rw [← List.drop_drop, e]; exact (List.drop_left' hl0).symm
 refine ⟨g, cap, c0, rfl, h1, h2.lt, hrd, fun i u hu => ?_, fun i => h2.frozen i, fun w' w'' c' hE' hk hS1 hS0 hrd' hupd => ?_⟩
 ·rw [h2.cell]
  rw [hc0, List.getElem?_take] at hu
  split at hu
  ·rw [List.getElem?_drop] at hu; simpa using hu
  ·cases hu
 ·obtain ⟨cur', hb', hcur'⟩ := hupd cur (h2.keep hE' id) (by omega) hc0
  have hlen' := hE.len hrd'
  have hc'l : cur'.size = cap * E.size := by
   have : cur'.toList.length = cap * E.size := by rw [hcur']; simp only [List.length_append, List.length_take, List.length_drop, hlen', hcl]; omega
   simpa using this
  refine .inr ⟨g, cap, cur', rfl, h1, hb', h3, h4, hc'l, ?_, ?_⟩
  ·rw [hcur', Nat.succ_mul, List.take_left' (by simp only [List.length_append, List.length_take, List.length_drop, hlen', hcl]; omega), ← List.take_append_getElem hj]
   exact ((h6.keep hE hE' fun _ _ x => x).keep hE hk (fun k hk e => hS1 (e ▸ hk))).append (Cells.single hrd')
  ·have : (cur'.toList.take (xs.length * E.size)).drop ((j + 1) * E.size) = c1 := by
    rw [hc1, hcur', Nat.succ_mul]
    apply List.ext_getElem?
    intro i
    rw [List.getElem?_drop, List.getElem?_drop, List.getElem?_take, List.getElem?_take]
    split
    ·rw [List.getElem?_append_right (by simp only [List.length_append, List.length_take, List.length_drop, hlen', hcl]; omega), List.getElem?_drop]
     congr 1
     simp only [List.length_append, List.length_take, List.length_drop, hlen', hcl]; omega
    ·rfl
   rw [this]
   exact (hrest.keep hE hE' fun _ _ x => x).keep hE hk (fun k hk e => hS0 (e ▸ hk))
end
abbrev TVAL : Nat := 33
abbrev TFIELD : Nat := 90
abbrev ZVAL : Value := .agg #[.int .u8 0, .int .i64 0, .string ⟨#[]⟩, .slice none 0 0, .slice none 0 0]
theorem ty_val : TyInfo Tryz.prog 30 TVAL 5 80 := by
 obtain ⟨i, h1, h2, h3, h4⟩ := info_parts (show (Tryz.prog.info? TVAL).map (fun i => (i.zero, i.size, i.bytes)) = some (some ZVAL, 5, 80) from by kernel_rfl)
 exact ⟨Tryz.underlying30, i, _, h1, h2, h3, h4, rfl⟩
theorem ty_field : TyInfo Tryz.prog 31 TFIELD 6 96 := by
 obtain ⟨i, h1, h2, h3, h4⟩ := info_parts (show (Tryz.prog.info? TFIELD).map (fun i => (i.zero, i.size, i.bytes)) = some (some (.agg #[.string ⟨#[]⟩, .int .u8 0, .int .i64 0, .string ⟨#[]⟩, .slice none 0 0, .slice none 0 0]), 6, 96) from by kernel_rfl)
 exact ⟨Tryz.underlying31, i, _, h1, h2, h3, h4, rfl⟩
mutual
def V.size : V → Nat
 | .mk _ _ _ l o => 1 + V.sizes l + F.sizes o
def V.sizes : List V → Nat
 | [] => 0
 | v :: vs => V.size v + V.sizes vs
def F.size : F → Nat
 | .mk _ v => V.size v
def F.sizes : List F → Nat
 | [] => 0
 | f :: fs => F.size f + F.sizes fs
end
theorem V.size_pos : ∀ v : V, 0 < v.size
 | .mk _ _ _ _ _ => by rw [V.size]; omega
theorem F.size_eq : ∀ f : F, f.size = f.v.size
 | .mk _ _ => by rw [F.size]; rfl
theorem V.size_eq : ∀ v : V, v.size = 1 + V.sizes v.l + F.sizes v.o
 | .mk _ _ _ _ _ => by rw [V.size]; rfl
theorem V.sizes_len : ∀ l : List V, l.length ≤ V.sizes l
 | [] => by simp
 | v :: vs => by have := V.size_pos v; have := V.sizes_len vs; rw [V.sizes, List.length_cons]; omega
theorem F.sizes_len : ∀ l : List F, l.length ≤ F.sizes l
 | [] => by simp
 | f :: fs => by have := V.size_pos f.v; have := F.sizes_len fs; rw [F.sizes, List.length_cons, F.size_eq]; omega
theorem V.sizes_mem : ∀ {l : List V} {x : V}, x ∈ l → x.size ≤ V.sizes l
 | v :: vs, x, h => by
  rw [V.sizes]
  rcases List.mem_cons.1 h with rfl | h
  ·omega
  ·have := V.sizes_mem h; omega
theorem F.sizes_mem : ∀ {l : List F} {x : F}, x ∈ l → x.v.size ≤ F.sizes l
 | f :: fs, x, h => by
  rw [F.sizes, F.size_eq]
  rcases List.mem_cons.1 h with rfl | h
  ·omega
  ·have := F.sizes_mem h; omega
theorem VAt.ext {w w' : World} {S : BS} {u : Value} {v : V} (h : VAt w S u v) (he : Ext w w') : VAt w' S u v := by
 obtain ⟨lv, ov, h1, h2, h3⟩ := h; exact ⟨lv, ov, h1, h2.ext EVal.ok he, h3.ext EField.ok he⟩
theorem VAt.more {w : World} {S S' : BS} {u : Value} {v : V} (h : VAt w S u v) (hS : ∀ k, k < w.heap.size → S k → S' k) : VAt w S' u v := by
 obtain ⟨lv, ov, h1, h2, h3⟩ := h; exact ⟨lv, ov, h1, h2.more EVal.ok hS, h3.more EField.ok hS⟩
theorem VAt.keep {Fr : Nat → Prop} {w w' : World} {S : BS} {u : Value} {v : V} (h : VAt w S u v) (hk : Keep Fr w w') (hF : ∀ k, S k → ¬ Fr k) : VAt w' S u v := by
 obtain ⟨lv, ov, h1, h2, h3⟩ := h; exact ⟨lv, ov, h1, h2.keep EVal.ok hk hF, h3.keep EField.ok hk hF⟩
theorem VAt.cut {w : World} {S : BS} {u : Value} {v : V} (h : VAt w S u v) : VAt w (fun k => S k ∧ k < w.heap.size) u v := h.more fun k h1 h2 => ⟨h2, h1⟩
theorem VAt.rd {w : World} {S : BS} {a b c d e : Value} {v : V} (h : VAt w S (.agg #[a, b, c, d, e]) v) : EVal.rd w S [a, b, c, d, e] v := by
 obtain ⟨lv, ov, h1, h2, h3⟩ := h
 simp only [Value.agg.injEq] at h1
 simp at h1
 obtain ⟨rfl, rfl, rfl, rfl, rfl⟩ := h1
 exact rdV_iff.2 ⟨_, _, rfl, h2, h3⟩
theorem EVal_cells {w : World} {S : BS} {cs : List Value} {v : V} (h : EVal.rd w S cs v) : ∃ A n c A' n' c', cs = [U8 v.kind, .int .i64 v.n, .string v.s, .slice A v.l.length c, .slice A' v.o.length c'] ∧ n = v.l.length ∧ n' = v.o.length ∧
  VAt w S (.agg #[U8 v.kind, .int .i64 v.n, .string v.s, .slice A v.l.length c, .slice A' v.o.length c']) v := by
 obtain ⟨lv, ov, rfl, h1, h2⟩ := rdV_iff.1 h
 obtain ⟨A, c, rfl, _⟩ := h1.shape
 obtain ⟨A', c', rfl, _⟩ := h2.shape
 exact ⟨A, _, c, A', _, c', rfl, rfl, rfl, ⟨_, _, rfl, h1, h2⟩⟩
theorem list_five {α : Type} (l : List α) (o : Nat) (a b c d e : α) (h : o + 5 ≤ l.length) : ((((l.set o a).set (o + 1) b).set (o + 2) c).set (o + 3) d).set (o + 4) e = l.take o ++ [a, b, c, d, e] ++ l.drop (o + 5) := by
 induction o generalizing l with
 | zero =>
  match l, h with
  | p :: q :: r :: s :: t :: m, _ => simp
 | succ o ih =>
  match l, h with
  | p :: m, h =>
   have := ih m (by simp at h; omega)
   simp [show o + 1 + 1 = (o + 1) + 1 from rfl, show o + 1 + 2 = (o + 2) + 1 from rfl, show o + 1 + 3 = (o + 3) + 1 from rfl, show o + 1 + 4 = (o + 4) + 1 from rfl, show o + 1 + 5 = (o + 5) + 1 from rfl] at this ⊢
   exact this
structure Tk where
 kind : UInt8
 n : Int
 s : ByteArray
 many : UInt8
def ETok : El Tk := { size := 4, rd := fun _ _ cs t => cs = [U8 t.kind, .int .i64 t.n, .string t.s, U8 t.many] }
theorem ETok.ok : ETok.Ok where
 pos := by decide
 len := fun h => by subst h; rfl
 one := fun h u hu => by
  subst h
  simp at hu
  rcases hu with rfl | rfl | rfl | rfl <;> rfl
 keep := fun h _ _ => h
 more := fun h _ => h
theorem ty_tok : TyInfo Tryz.prog 22 59 4 40 := by
 obtain ⟨i, h1, h2, h3, h4⟩ := info_parts (show (Tryz.prog.info? 59).map (fun i => (i.zero, i.size, i.bytes)) = some (some (.agg #[.int .u8 0, .int .i64 0, .string ⟨#[]⟩, .int .u8 0]), 4, 40) from by kernel_rfl)
 exact ⟨Tryz.underlying22, i, _, h1, h2, h3, h4, rfl⟩
abbrev keyLt (a b : ByteArray) : Bool := Op.bytesLess a.toList b.toList
def Asc (s : ByteArray) : Prop := (∀ c ∈ s.data.toList, c.toNat < 128) ∧ s.size ≤ 900
def Rise : List F → Prop
 | [] => True
 | f :: fs => (∀ g ∈ fs, keyLt f.key g.key = true) ∧ Rise fs
def KindOk (k : UInt8) (n : Int) (s : ByteArray) (l : List V) (o : List F) : Prop :=
 (k = 0 ∧ n = 0 ∧ s = ⟨#[]⟩ ∧ l = [] ∧ o = []) ∨ (k = 1 ∧ (n = 0 ∨ n = 1) ∧ s = ⟨#[]⟩ ∧ l = [] ∧ o = []) ∨ (k = 2 ∧ s = ⟨#[]⟩ ∧ l = [] ∧ o = []) ∨ (k = 3 ∧ n = 0 ∧ Asc s ∧ l = [] ∧ o = []) ∨
  (k = 4 ∧ n = 0 ∧ s = ⟨#[]⟩ ∧ o = []) ∨ (k = 5 ∧ n = 0 ∧ s = ⟨#[]⟩ ∧ l = [])
mutual
def SV : V → Prop
 | .mk k n s l o => KindOk k n s l o ∧ SVs l ∧ SFs o ∧ Rise o
def SVs : List V → Prop
 | [] => True
 | v :: vs => SV v ∧ SVs vs
def SF : F → Prop
 | .mk k v => Asc k ∧ SV v
def SFs : List F → Prop
 | [] => True
 | f :: fs => SF f ∧ SFs fs
end
theorem SF_iff (f : F) : SF f ↔ Asc f.key ∧ SV f.v := by cases f; rw [SF]; exact Iff.rfl
theorem SVs_iff : ∀ (l : List V), SVs l ↔ ∀ x ∈ l, SV x
 | [] => by simp [SVs]
 | v :: vs => by rw [SVs, SVs_iff vs]; simp
theorem SFs_iff : ∀ (l : List F), SFs l ↔ ∀ x ∈ l, SF x
 | [] => by simp [SFs]
 | v :: vs => by rw [SFs, SFs_iff vs]; simp
theorem V.sizes_append : ∀ a b : List V, V.sizes (a ++ b) = V.sizes a + V.sizes b
 | [], b => by simp [V.sizes]
 | v :: vs, b => by rw [List.cons_append, V.sizes, V.sizes, V.sizes_append vs b]; omega
theorem F.sizes_append : ∀ a b : List F, F.sizes (a ++ b) = F.sizes a + F.sizes b
 | [], b => by simp [F.sizes]
 | v :: vs, b => by rw [List.cons_append, F.sizes, F.sizes, F.sizes_append vs b]; omega
theorem less_irrefl : ∀ a : List UInt8, Op.bytesLess a a = false
 | [] => rfl
 | x :: a => by simp [Op.bytesLess, less_irrefl a]
theorem less_trans : ∀ {a b c : List UInt8}, Op.bytesLess a b = true → Op.bytesLess b c = true → Op.bytesLess a c = true
 | [], [], c, h, _ => by simp [Op.bytesLess] at h
 | [], _ :: _, [], _, h => by simp [Op.bytesLess] at h
 | [], _ :: _, _ :: _, _, _ => by simp [Op.bytesLess]
 | _ :: _, [], _, h, _ => by simp [Op.bytesLess] at h
 | _ :: _, _ :: _, [], _, h => by simp [Op.bytesLess] at h
 | x :: a, y :: b, z :: c, h1, h2 => by
  simp only [Op.bytesLess, Bool.or_eq_true, Bool.and_eq_true, decide_eq_true_eq, beq_iff_eq] at h1 h2 ⊢
  rcases h1 with h1 | ⟨rfl, h1⟩
  ·rcases h2 with h2 | ⟨rfl, h2⟩
   ·exact .inl (UInt8.lt_trans h1 h2)
   ·exact .inl h1
  ·rcases h2 with h2 | ⟨rfl, h2⟩
   ·exact .inl h2
   ·exact .inr ⟨rfl, less_trans h1 h2⟩
theorem less_total : ∀ {a b : List UInt8}, Op.bytesLess a b = false → a ≠ b → Op.bytesLess b a = true
 | [], [], _, h => absurd rfl h
 | [], _ :: _, h, _ => by simp [Op.bytesLess] at h
 | _ :: _, [], _, _ => by simp [Op.bytesLess]
 | x :: a, y :: b, h, hne => by
  simp only [Op.bytesLess, Bool.or_eq_false_iff, Bool.and_eq_false_iff, decide_eq_false_iff_not, beq_eq_false_iff_ne] at h
  simp only [Op.bytesLess, Bool.or_eq_true, Bool.and_eq_true, decide_eq_true_eq, beq_iff_eq]
  obtain ⟨h1, h2⟩ := h
  by_cases e : x = y
  ·subst e
   rcases h2 with h2 | h2
   ·exact absurd rfl h2
   ·exact .inr ⟨rfl, less_total h2 fun e => hne (by rw [e])⟩
  ·refine .inl ?_
   have h1 := UInt8.not_lt.1 h1
   rcases Nat.lt_or_ge y.toNat x.toNat with h | h
   ·exact UInt8.lt_iff_toNat_lt.2 h
   ·exact absurd (UInt8.le_antisymm (UInt8.le_iff_toNat_le.2 h) h1) e
structure Rs where
 n : Int
 there : Bool
 raw : Bool
 v : List Tk
def ERs : El Rs := { size := 4, rd := fun w S cs r => ∃ vv, cs = [.int .i64 r.n, .bool r.there, .bool r.raw, vv] ∧ Sl ETok w S vv r.v }
theorem ERs.ok : ERs.Ok where
 pos := by decide
 len := fun ⟨_, h, _⟩ => by subst h; rfl
 one := fun ⟨vv, h, h1⟩ u hu => by
  subst h
  obtain ⟨A, c, rfl, _⟩ := h1.shape
  simp at hu
  rcases hu with rfl | rfl | rfl | rfl <;> rfl
 keep := fun ⟨vv, h, h1⟩ hk hF => ⟨vv, h, h1.keep ETok.ok hk hF⟩
 more := fun ⟨vv, h, h1⟩ hS => ⟨vv, h, h1.more ETok.ok fun k hk => hS k hk⟩
theorem ERs_cells {w : World} {S : BS} {cs : List Value} {r : Rs} (h : ERs.rd w S cs r) : ∃ (A : Option Addr) (c : Nat), cs = [.int .i64 r.n, .bool r.there, .bool r.raw, .slice A r.v.length c] ∧ r.v.length ≤ c ∧ Sl ETok w S (.slice A r.v.length c) r.v := by
 obtain ⟨vv, rfl, h⟩ := h
 obtain ⟨A, c, rfl, hc, _⟩ := h.shape
 exact ⟨A, c, rfl, hc, h⟩
end Go.Proofs.YtihaliffcobacaaGreatDoor
namespace Go.Proofs.YtihaliffcobacaaGreatDoor
open Go.ChangeShapes Go.WideShapes Go.ChangeAt Go.RowKit Go.Deep
def TkF (t : Tk) : Prop := t.s.size ≤ reachBytes ∧ (Lit.int .i64 t.n).wf = true
theorem op_tok3 {H : Type} {enc : TypeId × Value → H} {W : World} {spare : Nat → Bool} {held : Bool} : Opens ETok enc Tryz.prog W spare held 59 TkF := by
 refine (opens_struct Tryz.underlying59 (by kernel_rfl) (fop_cons rfl (opens_u8 Tryz.underlying5 (by kernel_rfl)) (fop_cons rfl (opens_int Tryz.underlying2 (by kernel_rfl)) (fop_cons rfl (opens_str Tryz.underlying9 (by kernel_rfl))
  (fop_one rfl (opens_u8 Tryz.underlying5 (by kernel_rfl))))))).map rfl (fun x => ⟨x.1, x.2.1, x.2.2.1, x.2.2.2⟩) ?_ ?_
 ·rintro w S cs x ⟨c1, _, rfl, h1, c2, _, rfl, h2, c3, c4, rfl, h3, h4⟩
  show _ = _
  rw [show c1 = _ from h1, show c2 = _ from h2, show c3 = _ from h3, show c4 = _ from h4]; rfl
 ·rintro x ⟨_, hn, h, _⟩
  exact ⟨h, hn⟩
def RsF (r : Rs) : Prop := (Lit.int .i64 r.n).wf = true ∧ ∀ t ∈ r.v, TkF t
theorem op_rs {H : Type} {enc : TypeId × Value → H} {W : World} {spare : Nat → Bool} {held : Bool} : Opens ERs enc Tryz.prog W spare held 24 RsF := by
 refine (opens_struct Tryz.underlying24 (by kernel_rfl) (fop_cons rfl (opens_int Tryz.underlying3 (by kernel_rfl)) (fop_cons rfl (opens_bool Tryz.underlying4 (by kernel_rfl)) (fop_cons rfl (opens_bool Tryz.underlying4 (by kernel_rfl))
  (fop_one rfl (opens_slice ETok.ok Tryz.underlying22 (by kernel_rfl) op_tok3)))))).map rfl (fun x => ⟨x.1, x.2.1, x.2.2.1, x.2.2.2⟩) ?_ ?_
 ·rintro w S cs x ⟨c1, _, rfl, h1, c2, _, rfl, h2, c3, c4, rfl, h3, ⟨vv, h4, h4'⟩⟩
  exact ⟨vv, by rw [show c1 = _ from h1, show c2 = _ from h2, show c3 = _ from h3, h4]; rfl, h4'⟩
 ·rintro x ⟨hn, _, _, h4⟩
  exact ⟨hn, h4.2⟩
end Go.Proofs.YtihaliffcobacaaGreatDoor
namespace Go.Proofs.YtihaliffcobacaaGreatDoor
open Go.RowKit
abbrev byt (s : ByteArray) : List UInt8 := s.data.toList
theorem byt_len (s : ByteArray) : (byt s).length = s.size := Array.length_toList
def beN (n : Nat) : Nat → List UInt8
 | 0 => []
 | k + 1 => UInt8.ofNat (n / 256 ^ k) :: beN n k
theorem beN_len (n : Nat) : ∀ k, (beN n k).length = k
 | 0 => rfl
 | k + 1 => by rw [beN, List.length_cons, beN_len n k]
def deN (l : List UInt8) : Nat := l.foldl (fun a b => 256 * a + b.toNat) 0
theorem deN_acc : ∀ (l : List UInt8) (a : Nat), l.foldl (fun a b => 256 * a + b.toNat) a = a * 256 ^ l.length + deN l
 | [], a => by simp [deN]
 | b :: l, a => by
  have h2 : deN (b :: l) = b.toNat * 256 ^ l.length + deN l := by
   show List.foldl _ (256 * 0 + b.toNat) l = _
   rw [deN_acc l]; simp
  rw [List.foldl_cons, deN_acc l, h2, List.length_cons, Nat.pow_succ]
  simp only [Nat.add_mul]
  have : 256 * a * 256 ^ l.length = a * (256 ^ l.length * 256) := by rw [Nat.mul_comm 256 a, Nat.mul_assoc, Nat.mul_comm 256]
  omega
theorem deN_cons (b : UInt8) (l : List UInt8) : deN (b :: l) = b.toNat * 256 ^ l.length + deN l := by
 rw [deN, List.foldl_cons, deN_acc]; simp
theorem deN_snoc (l : List UInt8) (b : UInt8) : deN (l ++ [b]) = 256 * deN l + b.toNat := by
 rw [deN, List.foldl_append]; rfl
theorem deN_lt : ∀ l : List UInt8, deN l < 256 ^ l.length
 | [] => by simp [deN]
 | b :: l => by
  rw [deN_cons, List.length_cons, Nat.pow_succ]
  have h1 := deN_lt l
  have h2 := b.toNat_lt
  have h3 : b.toNat * 256 ^ l.length ≤ 255 * 256 ^ l.length := Nat.mul_le_mul_right _ (by omega)
  omega
theorem deN_beN (n : Nat) : ∀ k, deN (beN n k) = n % 256 ^ k
 | 0 => by simp [beN, deN, Nat.mod_one]
 | k + 1 => by
  rw [beN, deN_cons, beN_len, deN_beN n k, Nat.pow_succ, Nat.mod_mul, UInt8.toNat_ofNat']
  rw [Nat.mul_comm, Nat.add_comm]
def u64 (n : Int) : Nat := (n % 18446744073709551616).toNat
theorem u64_lt (n : Int) : u64 n < 256 ^ 8 := by unfold u64; have : (256 ^ 8 : Nat) = 18446744073709551616 := by decide
                                                 omega
def encT (s : ByteArray) : List UInt8 := beN s.size 4 ++ byt s
theorem encT_len (s : ByteArray) : (encT s).length = 4 + s.size := by rw [encT, List.length_append, beN_len, byt_len]
mutual
def encV : V → List UInt8
 | .mk k n s l o => k :: (if k = 1 ∨ k = 2 then beN (u64 n) 8 else if k = 3 then encT s else if k = 4 then beN l.length 4 ++ encVs l else if k = 5 then beN o.length 4 ++ encFs o else [])
def encVs : List V → List UInt8
 | [] => []
 | v :: vs => encV v ++ encVs vs
def encF : F → List UInt8
 | .mk k v => encT k ++ encV v
def encFs : List F → List UInt8
 | [] => []
 | f :: fs => encF f ++ encFs fs
end
theorem encV_eq (v : V) : encV v = v.kind :: (if v.kind = 1 ∨ v.kind = 2 then beN (u64 v.n) 8 else if v.kind = 3 then encT v.s else if v.kind = 4 then beN v.l.length 4 ++ encVs v.l else if v.kind = 5 then beN v.o.length 4 ++ encFs v.o else []) := by
 cases v; rw [encV]; rfl
theorem encF_eq (f : F) : encF f = encT f.key ++ encV f.v := by cases f; rw [encF]; rfl
theorem encVs_append : ∀ (a b : List V), encVs (a ++ b) = encVs a ++ encVs b
 | [], b => by simp [encVs]
 | v :: vs, b => by rw [List.cons_append, encVs, encVs, encVs_append vs b, List.append_assoc]
theorem encFs_append : ∀ (a b : List F), encFs (a ++ b) = encFs a ++ encFs b
 | [], b => by simp [encFs]
 | v :: vs, b => by rw [List.cons_append, encFs, encFs, encFs_append vs b, List.append_assoc]
theorem encVs_take {l : List V} {j : Nat} (h : j < l.length) : encVs (l.take (j + 1)) = encVs (l.take j) ++ encV l[j] := by
 rw [List.take_succ_eq_append_getElem h, encVs_append, encVs, encVs, List.append_nil]
theorem encFs_take {l : List F} {j : Nat} (h : j < l.length) : encFs (l.take (j + 1)) = encFs (l.take j) ++ encF l[j] := by
 rw [List.take_succ_eq_append_getElem h, encFs_append, encFs, encFs, List.append_nil]
theorem encVs_le {l : List V} (j : Nat) : (encVs (l.take j)).length ≤ (encVs l).length := by
 have h : encVs l = encVs (l.take j) ++ encVs (l.drop j) := by rw [← encVs_append, List.take_append_drop]
 rw [h, List.length_append]; omega
theorem encFs_le {l : List F} (j : Nat) : (encFs (l.take j)).length ≤ (encFs l).length := by
 have h : encFs l = encFs (l.take j) ++ encFs (l.drop j) := by rw [← encFs_append, List.take_append_drop]
 rw [h, List.length_append]; omega
theorem ty_u8 : TyInfo Tryz.prog 46 5 1 1 := by
 obtain ⟨i, h1, h2, h3, h4⟩ := info_parts (show (Tryz.prog.info? 5).map (fun i => (i.zero, i.size, i.bytes)) = some (some (.int .u8 0), 1, 1) from by kernel_rfl)
 exact ⟨Tryz.underlying46, i, _, h1, h2, h3, h4, rfl⟩
def textOf (l : List UInt8) : ByteArray := ⟨l.toArray⟩
theorem nums_text (l : List UInt8) : strOfNums (l.map fun c => (c.toNat : Int)) = textOf l := by
 unfold strOfNums textOf
 rw [List.map_map]
 have : ∀ c ∈ l, ((fun n : Int => UInt8.ofNat n.toNat) ∘ fun c : UInt8 => (c.toNat : Int)) c = c := fun c _ => by simp
 rw [List.map_congr_left this, List.map_id']
end Go.Proofs.YtihaliffcobacaaGreatDoor
