/- slices.Delete at messages: one element. -/
import Derived.Test.YtjpbfdkpkeaofaaNetB
set_option linter.unusedSimpArgs false
set_option linter.unusedVariables false
namespace Go.Proofs.Ytjpbfdkpkeaofaa
open Go.RowKit
set_option linter.unusedVariables false

theorem own_cells {α : Type} {E : El α} (hE : E.Ok) {w : World} {base : Nat} {T : TypeId} {S : BS} {g cap n : Nat} {xs : List α} (h : Own E w base T S (.slice (some ⟨g, 0, none⟩) n cap) xs) :
    ∃ cur, base ≤ g ∧ n = xs.length ∧ Blk w g T cur ∧ xs.length ≤ cap ∧ cap ≤ maxLen ∧ cur.size = cap * E.size ∧ Cells E w S (cur.toList.take (xs.length * E.size)) xs := by
  rcases h with ⟨h, _⟩ | ⟨g', cap', cur, e, h1, h2, h3, h4, h5, h6⟩
  · cases h
  · injection e with e1 e2 e3
    injection e1 with e1
    injection e1 with e1 _ _
    subst e1 e2 e3
    exact ⟨cur, h1, rfl, h2, h3, h4, h5, h6⟩

theorem add_at (g o j : Nat) : (⟨g, o, none⟩ : Addr).add j = ⟨g, o + j, none⟩ := by
  unfold Addr.add; split <;> simp_all
/-- An empty message's cells. -/
def mailZ : List Value := [.int .i64 0, .bool false, .slice none 0 0]
theorem zeroCells_mail : (Builtin.zeroCells #[.int .i64 0, .bool false, .slice none 0 0] 1).toList = mailZ := by
  simp [Builtin.zeroCells, mailZ, Array.range, List.range_succ]
theorem zero_mail (w : World) : (zeroValue TMAIL).run Try.prog w = .ok (.agg #[.int .i64 0, .bool false, .slice none 0 0]) w := by kernel_rfl

/-- 'append(s[:i], s[i+1:]...)' where s lies in its own block. -/
theorem run_close (w : World) (g n cap i : Nat) (cur : Array Value) (hb : Blk w g TMAIL cur) (hsz : cur.size = cap * 3) (hn : n ≤ cap) (hi : i < n) (h1 : ∀ u ∈ cur.toList.take (n * 3), u.oneCell' = true) (ty : TypeId) :
    (Builtin.append_ #[TMAILS, TMAILS] ty #[.slice (some ⟨g, 0, none⟩) i cap, .slice (if cap = i + 1 then some ⟨g, 0, none⟩ else (some (⟨g, 0, none⟩ : Addr)).map (·.add ((i + 1) * 3))) (n - (i + 1)) (cap - (i + 1))]).run Try.prog w =
      .ok (.slice (some ⟨g, 0, none⟩) (n - 1) cap) (w.setRow g (cur.toList.take (i * 3) ++ (cur.toList.take (n * 3)).drop ((i + 1) * 3) ++ cur.toList.drop ((n - 1) * 3)).toArray) := by
  obtain ⟨inf, z, hi0, hz, hsize, _, _⟩ := ty_mail.info
  have hl : cur.toList.length = cap * 3 := by simpa using hsz
  have hln : ((cur.toList.take (n * 3)).drop ((i + 1) * 3)).length = (n - (i + 1)) * 3 := by
    rw [List.length_drop, List.length_take, hl, Nat.min_eq_left (by omega), Nat.sub_mul]
  have key : ∀ (a : Addr), (∀ j u, ((cur.toList.take (n * 3)).drop ((i + 1) * 3))[j]? = some u → w.cell? (a.add j) = some u) →
      (Builtin.append_ #[TMAILS, TMAILS] ty #[.slice (some ⟨g, 0, none⟩) i cap, .slice (some a) (n - (i + 1)) (cap - (i + 1))]).run Try.prog w =
      .ok (.slice (some ⟨g, 0, none⟩) (n - 1) cap) (w.setRow g (cur.toList.take (i * 3) ++ (cur.toList.take (n * 3)).drop ((i + 1) * 3) ++ cur.toList.drop ((n - 1) * 3)).toArray) := fun a ha => by
    rw [run_append_room (P := Try.prog) w TMAILS ty TMAIL inf Try.underlying27 hi0 g i cap cur hb a (n - (i + 1)) (cap - (i + 1)) _ (by rw [hln, hsize]) ha
      (fun u hu => h1 u (List.mem_of_mem_drop hu)) (by omega) (by rw [hln, hsize]; omega), hsize, hln]
    rw [show i + (n - (i + 1)) = n - 1 from by omega, show i * 3 + (n - (i + 1)) * 3 = (n - 1) * 3 from by omega]
  by_cases hc : cap = i + 1
  · rw [if_pos hc]
    refine key _ fun j u hu => ?_
    have : ((cur.toList.take (n * 3)).drop ((i + 1) * 3)).length = 0 := by rw [hln]; omega
    rw [List.eq_nil_of_length_eq_zero this] at hu
    simp at hu
  · rw [if_neg hc]
    refine key _ fun j u hu => ?_
    rw [List.getElem?_drop] at hu
    have hlt : (i + 1) * 3 + j < n * 3 := by
      rcases Nat.lt_or_ge ((i + 1) * 3 + j) (n * 3) with h | h
      · exact h
      · rw [List.getElem?_eq_none (by simp; omega)] at hu; cases hu
    rw [List.getElem?_take_of_lt hlt] at hu
    show w.cell? (((⟨g, 0, none⟩ : Addr).add ((i + 1) * 3)).add j) = some u
    rw [add_at, add_at, Nat.zero_add, hb.cell]
    simpa using hu

/-- 'clear' of one element. -/
theorem run_clear1 (w : World) (g o cap : Nat) (cur : Array Value) (hb : Blk w g TMAIL cur) (ho : o + 3 ≤ cur.size) (ty : TypeId) :
    (Builtin.clear_ #[TMAILS] ty #[.slice (some ⟨g, o, none⟩) 1 cap]).run Try.prog w = .ok (.tuple #[]) (w.setRow g (cur.toList.take o ++ mailZ ++ cur.toList.drop (o + 3)).toArray) := by
  have hst := run_storeCells_at Try.prog g o TMAIL mailZ 0 cur w hb (by simpa [mailZ] using ho) (by intro v hv; simp [mailZ] at hv; rcases hv with rfl | rfl | rfl <;> rfl)
  simp only [Nat.add_zero] at hst
  have hml : mailZ.length = 3 := rfl
  rw [hml] at hst
  have hzv := zero_mail
  simp [Builtin.clear_, run_underlying Try.underlying27, hzv, Value.cells, zeroCells_mail, hst]

theorem cells_close {w : World} {S : BS} {c : List Value} {xs : List Mail} (h : Cells EMail w S c xs) {i : Nat} (hi : i < xs.length) : Cells EMail w S (c.take (i * 3) ++ c.drop ((i + 1) * 3)) (xs.eraseIdx i) := by
  have h1 := (Cells.split EMail.ok i (by omega) h).1
  have h2 := (Cells.split EMail.ok (i + 1) (by omega) h).2
  rw [List.eraseIdx_eq_take_drop_succ]
  exact h1.append h2

/-- In a walk: an 'append' whose run is known. -/
theorem wpList_append_run {P : Program} {t : TypeId} {v y r : Value} (w w2 : World) {ops : Array Oper} {rest : List Oper} {o : Oper} {a : Act} {Q : Exit → Act → World → Prop} (hgd : o.guard = none) (s x : Operand)
    (ho : o.op = .call { callee := .builtin .append, args := #[s, x], argTypes := #[t, t] })
    (hs : a.eval s = v) (hx : a.eval x = y) (hrun : (Builtin.append_ #[t, t] o.type #[v, y]).run P w = .ok r w2)
    (h : wpList P ops Q rest (a.put o.dst r) w2) : wpList P ops Q (o :: rest) a w := by
  refine wpList_plain hgd fun K hK => ?_
  unfold Oper.wp execOp
  simp only [ho, resolve, invoke, builtin, Sem.run_bind, Sem.run_pure, Result.andThen_ok, List.map_toArray, List.map_cons, List.map_nil, hs, hx, hrun]
  exact hK _ _ h

set_option maxHeartbeats 800000 in
/-- 'slices.Delete(s, i, i+1)'. -/
theorem delete_ok (w : World) (base : Nat) (S : BS) (g cap : Nat) (xs : List Mail) (i : Nat) (h : Own EMail w base TMAIL S (.slice (some ⟨g, 0, none⟩) xs.length cap) xs) (hi : i < xs.length) (hSg : ¬ S g) :
    Calls Try.prog 22 #[.slice (some ⟨g, 0, none⟩) xs.length cap, .int .i64 (i : Int), .int .i64 ((i : Int) + 1)] w fun e w' =>
      e = .returned (.slice (some ⟨g, 0, none⟩) (xs.length - 1) cap) ∧ Own EMail w' base TMAIL S (.slice (some ⟨g, 0, none⟩) (xs.length - 1) cap) (xs.eraseIdx i) ∧ Keep (· = g) w w' := by
  obtain ⟨cur, hbase, _, hb, hnc, hcm, hsz, hcs⟩ := own_cells EMail.ok h
  generalize hn : xs.length = n at *
  unfold maxLen at hcm
  obtain ⟨j, hj⟩ : ∃ j : Nat, j = i + 1 := ⟨_, rfl⟩
  rw [show ((i : Int) + 1) = (j : Int) from by omega]
  have hne : (((i : Nat) : Int) == (j : Int)) = false := by rw [beq_eq_false_iff_ne]; omega
  have hoc := hcs.one EMail.ok
  have hij : i ≤ j := by omega
  have hjn : j ≤ n := by omega
  have hic : i ≤ cap := by omega
  have hjc : j ≤ cap := by omega
  have hz : EMail.size = 3 := rfl
  rw [hz] at hoc hsz hcs
  have hes : (xs.eraseIdx i).length = n - 1 := by rw [List.length_eraseIdx]; simp [hn, hi]
  obtain ⟨m, hm⟩ : ∃ m : Nat, m = n - 1 := ⟨_, rfl⟩
  rw [← hm]
  have HM := hid hm
  have HJ := hid hj
  have HN := hid hn
  have HS := hid hsz
  have HE := hid hes
  clear hj hz hn hsz hes hm
  go_enter Try.func22, Try.ntmps22
  go_wp2_with fail
  refine wp_region_parts [0, 1, 2, 3, 4, 5] [] [6, 7] (specOf []) (fun w' => Ext w w') stable_nil (stableC_ext _) (by kernel_rfl) (by kernel_rfl) (Keep.drew (Keep.refl _ _)) ?_
  iterate 6
    (try simp only [Act.put, List.setIfInBounds_toArray, List.set_cons_zero, List.set_cons_succ])
    refine pure_run rfl rfl ?_
    apply Exists.intro
    refine ⟨fun w' => ?_, ?_⟩
    · go_simp
      rfl
  refine pure_nil (growP_nil fun w' hC _ => ?_)
  change wpList _ _ _ (_ :: _ :: []) _ _
  have hj := HJ.out
  have hn := HN.out
  have hsz := HS.out
  have hes := HE.out
  have hb1 := hb.keep hC id
  have hrun := run_close w' g n cap i cur hb1 hsz hnc hi hoc TMAILS
  rw [← hj] at hrun
  simp only [Option.map, add_at, Nat.zero_add] at hrun
  have hl : cur.toList.length = cap * 3 := by simpa using hsz
  have hb2 := hb1.setRow (cur.toList.take (i * 3) ++ (cur.toList.take (n * 3)).drop (j * 3) ++ cur.toList.drop ((n - 1) * 3)).toArray
  have hsz2 : (cur.toList.take (i * 3) ++ (cur.toList.take (n * 3)).drop (j * 3) ++ cur.toList.drop ((n - 1) * 3)).length = cap * 3 := by
    simp only [List.length_append, List.length_drop, List.length_take, hl]; omega
  have hpre : (cur.toList.take (i * 3) ++ (cur.toList.take (n * 3)).drop (j * 3)).length = (n - 1) * 3 := by
    simp only [List.length_append, List.length_drop, List.length_take, hl]; omega
  have hcl := cells_close hcs (i := i) (by omega)
  rw [List.take_take, Nat.min_eq_left (by omega), ← hj] at hcl
  generalize hp : cur.toList.take (i * 3) ++ (cur.toList.take (n * 3)).drop (j * 3) = p at *
  generalize hq : cur.toList.drop ((n - 1) * 3) = q at *
  have hrun2 := run_clear1 (w'.setRow g (p ++ q).toArray) g ((n - 1) * 3) (cap - (n - 1)) _ hb2 (by simp [hsz2]; omega)
  have hb3 := hb2.setRow ((p ++ q).toArray.toList.take ((n - 1) * 3) ++ mailZ ++ (p ++ q).toArray.toList.drop ((n - 1) * 3 + 3)).toArray
  have hK3 : Keep (· = g) w ((w'.setRow g (p ++ q).toArray).setRow g ((p ++ q).toArray.toList.take ((n - 1) * 3) ++ mailZ ++ (p ++ q).toArray.toList.drop ((n - 1) * 3 + 3)).toArray) :=
    (((((Keep.refl (fun b => b = g) w).ext hC).setRow (g := g) (fun _ => rfl) _)).setRow (g := g) (fun _ => rfl) _)
  have hsz3 : ((p ++ q).toArray.toList.take ((n - 1) * 3) ++ mailZ ++ (p ++ q).toArray.toList.drop ((n - 1) * 3 + 3)).toArray.size = cap * 3 := by
    have : mailZ.length = 3 := rfl
    simp only [List.size_toArray, List.length_append, List.length_take, List.length_drop, hsz2, this]; omega
  have htk : ((p ++ q).toArray.toList.take ((n - 1) * 3) ++ mailZ ++ (p ++ q).toArray.toList.drop ((n - 1) * 3 + 3)).toArray.toList.take ((n - 1) * 3) = p := by
    rw [← hpre]; simp
  generalize hW : (w'.setRow g (p ++ q).toArray).setRow g ((p ++ q).toArray.toList.take ((n - 1) * 3) ++ mailZ ++ (p ++ q).toArray.toList.drop ((n - 1) * 3 + 3)).toArray = w3 at *
  generalize hC3 : ((p ++ q).toArray.toList.take ((n - 1) * 3) ++ mailZ ++ (p ++ q).toArray.toList.drop ((n - 1) * 3 + 3)).toArray = cur3 at *
  generalize hW2 : w'.setRow g (p ++ q).toArray = w2 at *
  have hfin : Own EMail w3 base TMAIL S (.slice (some ⟨g, 0, none⟩) (n - 1) cap) (xs.eraseIdx i) :=
    .inr ⟨g, cap, cur3, by rw [← hes], hbase, hb3, by rw [hes]; omega, hcm, hsz3, by
      rw [hes]; show Cells EMail w3 S (cur3.toList.take ((n - 1) * 3)) _; rw [htk]
      exact hcl.keep EMail.ok hK3 (fun b hs e => hSg (e ▸ hs))⟩
  have hm := HM.out
  have h1nm : 1 = n - m := by omega
  rw [← hm] at hrun hrun2 hfin
  rw [h1nm] at hrun2
  have hmn : m ≤ n := by omega
  have hmc : ¬ cap = m := by omega
  have hnc' : n ≤ cap := hnc
  have hmc' : m ≤ cap := by omega
  clear hj hn hsz hl hp hq hpre hsz2 hsz3 htk hW hC3 hW2 hcl hm h1nm hb2 hb3 hcs hb1 hb h hes
  simp only [TMAILS] at hrun hrun2
  (try simp only [Act.put, List.setIfInBounds_toArray, List.set_cons_zero, List.set_cons_succ])
  refine wpList_append_run w' w2 rfl (.tmp 22) (.tmp 25) ?_ ?_ ?_ hrun ?_
  · rfl
  · rfl
  · rfl
  clear hrun
  by_cases hcj : cap = j
  all_goals (first | subst hcj | skip)
  all_goals (
    go_wp2_with fail
    refine NoPanic.normal ?_
    go_wp2
    go_ret
    exact ⟨rfl, hfin, hK3⟩)
end Go.Proofs.Ytjpbfdkpkeaofaa
