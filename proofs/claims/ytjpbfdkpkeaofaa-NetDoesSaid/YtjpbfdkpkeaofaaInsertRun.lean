/- What 'slices.Insert' leans on: copy into a block that is known whole; append of zeros. No program. -/
import Derived.Test.YtjpbfdkpkeaofaaOwnTwo
import Derived.Lib.AppendZeros
import Derived.Lib.Overlaps
import Derived.Laws.CopyRow
set_option linter.unusedSimpArgs false
set_option linter.unusedVariables false
namespace Go.Proofs.Ytjpbfdkpkeaofaa
open Go.RowKit

/-- 'copy(d, s)' into a block that is known whole. -/
theorem run_copy_blk {P : Program} (w : World) (dT sT ty T : TypeId) (sz bytes : Nat) (ht : TyInfo P dT T sz bytes) (g o dLen dCap : Nat) (a : Addr) (sLen sCap : Nat) (cur : Array Value) (cs : List Value)
    (hg : Blk w g T cur) (hn : cs.length = Nat.min sLen dLen * sz) (hsrc : ∀ j v, cs[j]? = some v → w.cell? (a.add j) = some v) (hfit : o + cs.length ≤ cur.size) (h1 : ∀ v ∈ cs, v.oneCell' = true) :
    ∃ w', (Builtin.copy_ #[dT, sT] ty #[.slice (some ⟨g, o, none⟩) dLen dCap, .slice (some a) sLen sCap]).run P w = .ok (goInt (Nat.min sLen dLen)) w' ∧
      Blk w' g T (cur.toList.take o ++ cs ++ cur.toList.drop (o + cs.length)).toArray ∧ Keep (· = g) w w' := by
  obtain ⟨i, z, hi, hz, hsize, hby, hzs⟩ := ht.info
  have hl := run_loadCells_list (P := P) w a cs hsrc
  have hst := run_storeCells_at P g o T cs 0 cur w hg (by simpa using hfit) h1
  refine ⟨w.setRow g (cur.toList.take o ++ cs ++ cur.toList.drop (o + cs.length)).toArray, ?_, hg.setRow _, (Keep.refl (· = g) w).setRow (F := (· = g)) (fun _ => rfl) _⟩
  simp [Builtin.copy_, run_underlying ht.under, Builtin.lenOf, Builtin.firstCells, sizeOf, typeInfo, hi, hsize, ← hn, hl, hst]

/-- 'append(s[:m], make(S, n)...)' where it must grow. -/
theorem run_append_zeros {P : Program} (w : World) (t tn ty e : TypeId) (i : TypeInfo) (z : Value) (k kn : IntKind) (ht : P.underlying t = some (.slice e)) (htn : P.underlying tn = some (.int kn)) (hi : P.info? e = some i) (hz : i.zero = some z)
    (g c m n : Nat) (cur : Array Value) (hb : Blk w g e cur) (h0 : 0 < n) (hs : 0 < i.size) (hfit : m * i.size ≤ cur.size) (hc : c < m + n) (h63 : m + n ≤ maxLen) (hbytes : (m + n) * i.bytes ≤ 140737488355328) :
    (Builtin.append_ #[t, tn] ty #[.slice (some ⟨g, 0, none⟩) m c, .int k n]).run P w =
      .ok (.slice (some ⟨w.heap.size, 0, none⟩) (m + n) (grownCap w (m + n) c e)) (w.drew.alloc (.cells ((cur.toList.take (m * i.size)).toArray ++ Builtin.zeroCells z.cells n ++ Builtin.zeroCells z.cells (grownCap w (m + n) c e - (m + n))) e)) := by
  have hn : n ≠ 0 := by omega
  simp only [maxLen] at h63
  have hw : IntKind.i64.wrap (n : Int) = n := by rw [IntKind.wrap_i64]; omega
  have hnb : n * i.bytes ≤ (m + n) * i.bytes := Nat.mul_le_mul_right _ (by omega)
  have h63' : ¬ (9223372036854775807 < (m : Int) + (n : Int)) := by omega
  have h48' : ¬ (281474976710656 < Builtin.nextslicecap (m + n) c * i.bytes) := by
    have := Nat.mul_le_mul_right i.bytes (nextslicecap_le hc)
    rw [Nat.mul_assoc] at this
    omega
  have h48i : ¬ (281474976710656 < (n : Int) * (i.bytes : Int)) := by
    rw [← Int.natCast_mul]
    omega
  have hneg : ¬ ((n : Int) < 0) := by omega
  have hns : ¬ (n * i.size = 0) := Nat.mul_ne_zero hn (by omega)
  have hroom : ¬ (m + n ≤ c) := by omega
  have hlt : (cur.toList.take (m * i.size)).length = m * i.size := by simp; omega
  have hl := run_loadCells_list (P := P) w.drew ⟨g, 0, none⟩ (cur.toList.take (m * i.size)) (fun j v hj => by
    have hj' : j < m * i.size := by have := (List.getElem?_eq_some_iff.1 hj).1; omega
    rw [List.getElem?_take_of_lt hj'] at hj
    have e : (⟨g, 0, none⟩ : Addr).add j = ⟨g, j, none⟩ := by unfold Addr.add; split <;> simp_all
    rw [e, hb.drew.cell]
    simpa using hj)
  rw [hlt] at hl
  simp [Builtin.append_, run_underlying ht, run_underlying htn, sizeOf, typeInfo, zeroValue, hi, hz, asInt, asIntOf, hw, hn, hneg, hns, h63', h48', h48i, hroom, Question.forced, Builtin.firstCells, hl, newRow, grownCap]
/-- In a walk: a copy whose run is known. -/
theorem wpList_copy_known {P : Program} (w : World) {ops : Array Oper} {rest : List Oper} {o : Oper} {a : Act} {Q : Exit → Act → World → Prop} (hgd : o.guard = none) (d s : Operand) (t t' : TypeId)
    (ho : o.op = .call { callee := .builtin .copy, args := #[d, s], argTypes := #[t, t'] }) (v u : Value) (hd : a.eval d = v) (hs : a.eval s = u) {v' : Value} {w' : World}
    (hr : (Builtin.copy_ #[t, t'] o.type #[v, u]).run P w = .ok v' w') (h : wpList P ops Q rest (a.put o.dst v') w') : wpList P ops Q (o :: rest) a w := by
  refine wpList_plain hgd fun K hK => ?_
  unfold Oper.wp execOp
  simp only [ho, resolve, invoke, builtin, Sem.run_bind, Sem.run_pure, Result.andThen_ok, List.map_toArray, List.map_cons, List.map_nil, hd, hs, hr]
  exact hK _ _ h
theorem add_lit (g o j : Nat) : (⟨g, o, none⟩ : Addr).add j = ⟨g, o + j, none⟩ := by
  unfold Addr.add; split
  · rename_i h; subst h; rfl
  · rfl
/-- The cells of a block, read from o on. -/
theorem Blk.read {w : World} {g : Nat} {T : TypeId} {cur : Array Value} (h : Blk w g T cur) {cs : List Value} {o : Nat} (e : ∀ j u, cs[j]? = some u → cur[o + j]? = some u) : ∀ j u, cs[j]? = some u → w.cell? ((⟨g, o, none⟩ : Addr).add j) = some u := by
  intro j u hu
  rw [add_lit, h.cell]
  exact e j u hu
theorem Blk.shape_ {w : World} {g : Nat} {T : TypeId} {cur : Array Value} (h : Blk w g T cur) : w.shape? g = some (T, cur.size) := by
  unfold Blk at h
  simp [World.shape?, h]
/-- Cells moved up, then new ones laid in: what stands there. -/
theorem splice_room {α : Type} (cur cs cy : List α) (p q r : Nat) (hcs : cs = cur.take r) (hp : p ≤ r) (hcy : cy.length = q) (hr : r + q ≤ cur.length) (cur2 : List α) (h2 : cur2 = cur.take (p + q) ++ cs.drop p ++ cur.drop (p + q + (cs.drop p).length)) :
    (cur2.take p ++ cy ++ cur2.drop (p + cy.length)).take (r + q) = cs.take p ++ (cy ++ cs.drop p) := by
  have hl : cs.length = r := by rw [hcs]; simp; omega
  have e1 : cur2.take p = cs.take p := by
    rw [h2, List.append_assoc, List.take_append_of_le_length (by simp; omega), List.take_take, hcs, List.take_take, Nat.min_eq_left (by omega), Nat.min_eq_left hp]
  have e2 : cur2.drop (p + cy.length) = cs.drop p ++ cur.drop (p + q + (cs.drop p).length) := by
    rw [h2, List.append_assoc, hcy, List.drop_left' (by simp; omega)]
  rw [e1, e2, ← List.append_assoc, List.take_left' (by simp; omega), List.append_assoc]
/-- The same in a new block. -/
theorem splice_grow {α : Type} (c0 z cs cy : List α) (p q r : Nat) (hc0 : c0 = cs.take p) (hl : cs.length = r) (hp : p ≤ r) (hcy : cy.length = q) (hz : q + (r - p) ≤ z.length) (cur2 : List α) (h2 : cur2 = (c0 ++ z).take p ++ cy ++ (c0 ++ z).drop (p + cy.length)) :
    (cur2.take (p + q) ++ cs.drop p ++ cur2.drop (p + q + (cs.drop p).length)).take (r + q) = cs.take p ++ (cy ++ cs.drop p) := by
  have h0 : c0.length = p := by rw [hc0]; simp; omega
  have e1 : cur2.take (p + q) = cs.take p ++ cy := by
    rw [h2, List.take_left' (l₂ := (c0 ++ z).drop (p + cy.length)) (by simp; omega), List.take_left' h0, hc0]
  rw [e1, List.take_left' (by simp; omega), List.append_assoc]
theorem isOne_all {cs : List Value} {k m : Nat} (h : ∀ u ∈ cs, u.oneCell' = true) : (∀ u ∈ cs.drop k, u.oneCell' = true) := fun u hu => h u (List.mem_of_mem_drop hu)
end Go.Proofs.Ytjpbfdkpkeaofaa
