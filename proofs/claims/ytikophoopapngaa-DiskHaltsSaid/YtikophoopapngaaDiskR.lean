/- The range over a disk's files, for the walk. -/
import Derived.Test.YtikophoopapngaaDiskB
import Derived.Sort.EncStr
import Derived.Sort.KeysCollected
set_option linter.unusedSimpArgs false
set_option linter.unusedVariables false
namespace Go.Proofs.Ytikophoopapngaa
open Go.RowKit Go.Maps
set_option linter.unusedVariables false

theorem Keep.grownBy {w w' : World} {r : Nat} (h : w.grownBy w' (some r)) : Keep (· = r) w w' := (Keep.refl (· = r) w).grown h fun k e _ => (Option.some.inj e).symm
theorem Keep.grownNone {w w' : World} (h : w.grownBy w' none) : Ext w w' := (Keep.refl (fun _ => False) w).grown h fun k e _ => by cases e
/-- The range is under way: of these files those are to come that 'left' says. -/
abbrev RangeIs (w : World) (m r : Nat) (fs : List DF) (left : Lit → Bool) (cnt : Nat) : Prop := w.ranges (H := Unit) Try.prog TSTR fileElem m r fs.length (.map (fs.map ent)) left cnt
theorem RangeIs.keep {F : Nat → Prop} {w w' : World} {m r : Nat} {fs : List DF} {left : Lit → Bool} {cnt : Nat} (h : RangeIs w m r fs left cnt) (hk : Keep F w w') (hm : ¬ F m) (hr : ¬ F r) : RangeIs w' m r fs left cnt := by
  have h1 := World.ownsMap.lt h.owns
  have h2 := World.ranges.lt h
  obtain ⟨es, clock, since, seen, c0, hb, Ft, hs, hD, hr', rest⟩ := h
  exact ⟨es, clock, since, seen, c0, (hk.block m h1 hm).trans hb, Ft, hs, hD, (hk.block r h2 hr).trans hr', rest⟩

section
variable {w : World} {ops : Array Oper} {rest : List Oper} {o : Oper} {a : Act} {Q : Exit → Act → World → Prop}
theorem wpList_range_files (hg : o.guard = none) (x : Operand) (hop : o.op = Op.range TMAP x) (m : Nat) (fs : List DF) (hm : a.eval x = .map (some m)) (hown : MapIs w m fs)
    (hK : ∀ w', RangeIs w' m w.heap.size fs (Maps.has (.map (fs.map ent))) (Maps.size (.map (fs.map ent))) → Ext w w' → w'.heap.size = w.heap.size + 1 → wpList Try.prog ops Q rest (a.put o.dst (.pointer (some ⟨w.heap.size, 0, none⟩))) w') :
    wpList Try.prog ops Q (o :: rest) a w :=
  wpList_range_own w hg x TMAP hop TSTR TPFI mapLaw TM fileElem m fs.length _ hm hown fun w' h1 h2 h3 => hK w' h1 (Keep.grownNone h2) h3
theorem has_ent {fs : List DF} {f : DF} (hf : f ∈ fs) : Maps.has (.map (fs.map ent)) (.string f.c.name) = true :=
  List.any_eq_true.2 ⟨ent f, List.mem_map_of_mem hf, by show (f.c.name == f.c.name) = true; simp⟩
theorem wpList_next_files (hg : o.guard = none) (it : Operand) (hop : o.op = Op.next it false) (m r : Nat) (fs : List DF) (left : Lit → Bool) (cnt : Nat)
    (hit : a.eval it = .pointer (some ⟨r, 0, none⟩)) (h : RangeIs w m r fs left cnt)
    (hDone : (∀ kl, left kl = false) → wpList Try.prog ops Q rest (a.put o.dst (.tuple #[.bool false])) w)
    (hMore : ∀ (f : DF), f ∈ fs → left (.string f.c.name) = true → ∀ (w' : World) (cnt' : Nat), RangeIs w' m r fs (fun z => left z && !z.sameKey (.string f.c.name)) cnt' → cnt' < cnt → Keep (· = r) w w' →
      (Instr.entry (.pointer (some ⟨r, 0, none⟩))).run Try.prog w' = .ok (.tuple #[.string ⟨f.c.name.toArray⟩, .pointer (some ⟨f.blk, 0, none⟩)]) w' →
      wpList Try.prog ops Q rest (a.put o.dst (.tuple #[.bool true, .string ⟨f.c.name.toArray⟩, .pointer (some ⟨f.blk, 0, none⟩)])) w') :
    wpList Try.prog ops Q (o :: rest) a w := by
  refine wpList_next_ranges w hg it hop TSTR mapLaw fileElem Go.Proofs.encStr (fun p : Option Nat => Value.pointer (p.map fun b => ⟨b, 0, none⟩))
    (fun key kl hk => by obtain ⟨x, hx, _⟩ := Maps.keyOf_str Try.underlying9 hk; exact ⟨x, hx⟩) (fun v y hv => by obtain ⟨p, e, _⟩ := fileElem_inv hv; exact ⟨p, e⟩)
    m r fs.length _ left cnt hit h (fun _ => hDone) ?_
  intro x c kl y w' cnt' hkey hlk hv hat hrg hlt hgr hsz hen
  obtain ⟨x', ex, rfl, _⟩ := Maps.keyOf_str Try.underlying9 hkey
  have ex : x = x' := by
    have h1 : (Go.Proofs.encStr x) = Value.string ⟨x'.toArray⟩ := ex
    simp [Go.Proofs.encStr] at h1
    exact h1
  subst ex
  have h1 := hat (.lit (.bool true))
  have h2 := hat (.lit (.bool false))
  rw [atKey_ent] at h1 h2
  cases hf : findF fs x with
  | none =>
    rw [hf] at h1 h2
    rw [← h1] at h2
    simp at h2
  | some f =>
    rw [hf] at h1
    obtain ⟨hmem, hname⟩ := findF_some hf
    subst hname
    have hc : c = some f.blk := by
      cases c with
      | none =>
        have : y = (.lit (.int .i64 (-1)), []) := (Option.some.inj hv).symm
        rw [this] at h1
        simp at h1
      | some b =>
        have : y = (.lit (.int .i64 (b : Int)), []) := (Option.some.inj hv).symm
        rw [this] at h1
        simp at h1
        have h1 : f.blk = b := by omega
        exact congrArg some h1.symm
    subst hc
    exact hMore f hmem hlk w' cnt' hrg hlt (Keep.grownBy hgr) hen
end

/-- What those that are to come add up to. -/
def sumLeft (g : DF → Nat) (fs : List DF) (left : Lit → Bool) : Nat := ((fs.filter fun f => left (.string f.c.name)).map g).sum
theorem sumLeft_all {g : DF → Nat} {fs : List DF} {left : Lit → Bool} (h : ∀ f ∈ fs, left (.string f.c.name) = true) : sumLeft g fs left = (fs.map g).sum := by
  unfold sumLeft
  rw [List.filter_eq_self.2 h]
theorem sumLeft_none {g : DF → Nat} {fs : List DF} {left : Lit → Bool} (h : ∀ kl, left kl = false) : sumLeft g fs left = 0 := by
  unfold sumLeft
  rw [List.filter_eq_nil_iff.2 fun f _ => by simp [h]]
  rfl
theorem sumLeft_congr {g : DF → Nat} {fs : List DF} {l1 l2 : Lit → Bool} (h : ∀ f ∈ fs, l1 (.string f.c.name) = l2 (.string f.c.name)) : sumLeft g fs l1 = sumLeft g fs l2 := by
  unfold sumLeft
  rw [List.filter_congr h]
theorem sumLeft_step {g : DF → Nat} {left : Lit → Bool} : ∀ {fs : List DF}, fs.Pairwise (fun f g => f.c.name ≠ g.c.name) → ∀ {f : DF}, f ∈ fs → left (.string f.c.name) = true →
    sumLeft g fs left = g f + sumLeft g fs (fun z => left z && !z.sameKey (.string f.c.name))
  | [], _, _, hf, _ => by cases hf
  | x :: r, hp, f, hf, hl => by
    obtain ⟨h1, h2⟩ := List.pairwise_cons.1 hp
    by_cases hx : x = f
    · subst hx
      have e1 : sumLeft g (x :: r) left = g x + sumLeft g r left := by unfold sumLeft; rw [List.filter_cons, if_pos hl]; rfl
      have e2 : sumLeft g (x :: r) (fun z => left z && !z.sameKey (.string x.c.name)) = sumLeft g r (fun z => left z && !z.sameKey (.string x.c.name)) := by
        unfold sumLeft
        rw [List.filter_cons, if_neg]
        show ¬ ((left _ && !(x.c.name == x.c.name)) = true)
        simp
      rw [e1, e2]
      congr 1
      refine sumLeft_congr fun y hy => ?_
      show _ = (left _ && !(y.c.name == x.c.name))
      have := h1 y hy
      have : (y.c.name == x.c.name) = false := by simpa using fun e => this e.symm
      rw [this]; simp
    · have hf' : f ∈ r := by
        rcases List.mem_cons.1 hf with e | h
        · exact absurd e.symm hx
        · exact h
      have ih := sumLeft_step (g := g) h2 hf' hl
      have hne : (x.c.name == f.c.name) = false := by simpa using h1 f hf'
      have e : (left (.string x.c.name) && !(Lit.string x.c.name).sameKey (.string f.c.name)) = left (.string x.c.name) := by
        show (left _ && !(x.c.name == f.c.name)) = _
        rw [hne]; simp
      unfold sumLeft at ih ⊢
      rw [List.filter_cons, List.filter_cons]
      dsimp only at ih ⊢
      simp only [e]
      split
      · simp only [List.map_cons, List.sum_cons]; omega
      · exact ih
end Go.Proofs.Ytikophoopapngaa
