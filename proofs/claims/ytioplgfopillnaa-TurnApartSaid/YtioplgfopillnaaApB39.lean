/- OpenX, OpTok, TurnO: laid together. -/
import Derived.Test.YtioplgfopillnaaApB38
import Derived.SizedLaws
import Derived.Test.YtioplgfopillnaaApB3
/- Arguments of any shape, opened: kinds of elements, built of one another; what comes in is no longer than a process's memory. No program. -/
set_option linter.unusedSimpArgs false
set_option linter.unusedVariables false
namespace Go.Proofs.Ytioplgfopillnaa
open Go.ChangeShapes Go.WideShapes Go.ChangeAt Go.RowKit Go.Deep

/-! ### Kinds of elements -/
def EInt (k : IntKind) : El Int := { size := 1, rd := fun _ _ cs x => cs = [.int k x] }
theorem EInt.ok (k : IntKind) : (EInt k).Ok where
  pos := by show 0 < 1; decide
  len := fun h => by have h := h; subst h; rfl
  one := fun h u hu => by subst h; simp at hu; subst hu; rfl
  keep := fun h _ _ => h
  more := fun h _ => h
def EBool : El Bool := { size := 1, rd := fun _ _ cs x => cs = [.bool x] }
theorem EBool.ok : EBool.Ok where
  pos := by decide
  len := fun h => by subst h; rfl
  one := fun h u hu => by subst h; simp at hu; subst hu; rfl
  keep := fun h _ _ => h
  more := fun h _ => h
def EStr : El ByteArray := { size := 1, rd := fun _ _ cs x => cs = [.string x] }
theorem EStr.ok : EStr.Ok where
  pos := by decide
  len := fun h => by subst h; rfl
  one := fun h u hu => by subst h; simp at hu; subst hu; rfl
  keep := fun h _ _ => h
  more := fun h _ => h
def EPair {α β : Type} (E : El α) (F : El β) : El (α × β) := { size := E.size + F.size, rd := fun w S cs x => ∃ c1 c2, cs = c1 ++ c2 ∧ E.rd w S c1 x.1 ∧ F.rd w S c2 x.2 }
theorem EPair.ok {α β : Type} {E : El α} {F : El β} (hE : E.Ok) (hF : F.Ok) : (EPair E F).Ok where
  pos := by show 0 < E.size + F.size; have := hE.pos; omega
  len := fun ⟨c1, c2, h, h1, h2⟩ => by subst h; rw [List.length_append, hE.len h1, hF.len h2]; rfl
  one := fun ⟨c1, c2, h, h1, h2⟩ u hu => by
    subst h
    rcases List.mem_append.1 hu with hu | hu
    · exact hE.one h1 u hu
    · exact hF.one h2 u hu
  keep := fun ⟨c1, c2, h, h1, h2⟩ hk hF' => ⟨c1, c2, h, hE.keep h1 hk hF', hF.keep h2 hk hF'⟩
  more := fun ⟨c1, c2, h, h1, h2⟩ hS => ⟨c1, c2, h, hE.more h1 hS, hF.more h2 hS⟩

section
variable {H : Type} {enc : TypeId × Value → H} {P : Program} {W : World} {spare : Nat → Bool} {held : Bool}

/-- No part of it takes more bytes than a process has. -/
def Fits (P : Program) (t : TypeId) (d : DataW H) : Prop := ∀ n ∈ d.weights P t, n ≤ reachBytes
theorem weightsAll_mem {e : TypeId} {n : Nat} : ∀ {ds : List (DataW H)} {d : DataW H}, d ∈ ds → n ∈ d.weights P e → n ∈ DataW.weightsAll P e ds
  | d :: r, x, hx, hn => by
    rw [DataW.weightsAll]
    rcases List.mem_cons.1 hx with rfl | hx
    · exact List.mem_append_left _ hn
    · exact List.mem_append_right _ (weightsAll_mem hx hn)
theorem weightsEach_mem {n : Nat} : ∀ {ts : List TypeId} {ds : List (DataW H)} {i : Nat} {t : TypeId} {d : DataW H}, ts[i]? = some t → ds[i]? = some d → n ∈ d.weights P t → n ∈ DataW.weightsEach P ts ds
  | t :: ts, d :: ds, 0, t', d', ht, hd, hn => by
    simp at ht hd; subst ht hd
    rw [DataW.weightsEach]; exact List.mem_append_left _ hn
  | t :: ts, d :: ds, i + 1, t', d', ht, hd, hn => by
    rw [DataW.weightsEach]; exact List.mem_append_right _ (weightsEach_mem (by simpa using ht) (by simpa using hd) hn)
/-- .. of one of the arguments. -/
theorem Fits.of_all {ts : List TypeId} {ds : List (DataW H)} (h : (DataW.weightsEach P ts ds).all (· ≤ reachBytes) = true) {i : Nat} {t : TypeId} {d : DataW H} (ht : ts[i]? = some t) (hd : ds[i]? = some d) : Fits P t d := fun n hn => by
  have := List.all_eq_true.1 h n (weightsEach_mem ht hd hn)
  simpa using this

/-- Cells of type t read as a datum of kind E, of which Q is known. -/
structure Opens {α : Type} (E : El α) (enc : TypeId × Value → H) (P : Program) (W : World) (spare : Nat → Bool) (held : Bool) (t : TypeId) (Q : α → Prop) : Prop where
  size : P.cellsOf t = E.size
  op : ∀ (fuel : Nat) (cs : List Value) (y : DataW H × List MemPlace), DataW.trod enc P W 0 spare held fuel t cs = some y → Fits P t y.1 → ∃ x, E.rd W (fun k => k < W.heap.size) cs x ∧ Q x

theorem Opens.map {α β : Type} {E : El α} {F : El β} {t : TypeId} {Q : α → Prop} {R : β → Prop} (h : Opens E enc P W spare held t Q) (hs : F.size = E.size) (f : α → β) (hrd : ∀ w S cs x, E.rd w S cs x → F.rd w S cs (f x)) (hQ : ∀ x, Q x → R (f x)) : Opens F enc P W spare held t R :=
  ⟨h.size.trans hs.symm, fun fuel cs y hy hf => by obtain ⟨x, h1, h2⟩ := h.op fuel cs y hy hf; exact ⟨f x, hrd _ _ _ _ h1, hQ _ h2⟩⟩
theorem opens_int {t : TypeId} {k : IntKind} (ht : P.underlying t = some (.int k)) (hc : P.cellsOf t = 1) : Opens (EInt k) enc P W spare held t (fun x => (Lit.int k x).wf = true) :=
  ⟨hc, fun fuel cs y hy _ => by obtain ⟨n, h1, _, h3⟩ := DataW.trod_int ht hy; exact ⟨n, h1, h3⟩⟩
theorem opens_u8 {t : TypeId} (ht : P.underlying t = some (.int .u8)) (hc : P.cellsOf t = 1) : Opens EU8 enc P W spare held t (fun _ => True) :=
  ⟨hc, fun fuel cs y hy _ => by obtain ⟨n, h1, _, h3⟩ := DataW.trod_int ht hy; obtain ⟨c, rfl⟩ := u8_of_wf h3; exact ⟨c, h1, trivial⟩⟩
theorem opens_bool {t : TypeId} (ht : P.underlying t = some .bool) (hc : P.cellsOf t = 1) : Opens EBool enc P W spare held t (fun _ => True) :=
  ⟨hc, fun fuel cs y hy _ => by obtain ⟨b, h1, _⟩ := DataW.trod_bool ht hy; exact ⟨b, h1, trivial⟩⟩
theorem opens_str {t : TypeId} (ht : P.underlying t = some .string) (hc : P.cellsOf t = 1) : Opens EStr enc P W spare held t (fun s => s.size ≤ reachBytes) :=
  ⟨hc, fun fuel cs y hy hf => by
    obtain ⟨s, h1, h2, _⟩ := DataW.trod_string ht hy
    subst h2
    exact ⟨s, h1, hf s.size (by simp [DataW.weights])⟩⟩
/-- A slice's value, its elements in sight. -/
theorem sl_opens {α : Type} {E : El α} (hE : E.Ok) {t e : TypeId} {Q : α → Prop} (ht : P.underlying t = some (.slice e)) (h : Opens E enc P W spare held e Q) {fuel : Nat} {v : Value} {y : DataW H × List MemPlace}
    (hy : DataW.trod enc P W 0 spare held fuel t [v] = some y) (hf : Fits P t y.1) : ∃ l : List α, Sl E W (fun k => k < W.heap.size) v l ∧ l.length * P.bytesOf e ≤ reachBytes ∧ ∀ x ∈ l, Q x := by
  rcases open_slice ht hy with ⟨h0, _⟩ | ⟨x, len, cap, m, n, D, Pl, hcs, _, hl, hm, hmm, hd, hi⟩
  · obtain rfl : v = .slice none 0 0 := by simpa using h0
    exact ⟨[], Sl.nil _ _, by simp, by simp⟩
  · obtain rfl : v = .slice (some x) len cap := by simpa using hcs
    subst hd
    have hlen : len ≤ m := by rw [hmm]; split <;> omega
    have hpos := hE.pos
    have hC := h.size
    have hw : ∀ n', n' ∈ DataW.weights P t (DataW.slice ((List.range len).map D) ((List.range (m - len)).map fun j => D (len + j))) ↔ n' ∈ ((((List.range len).map D).length * P.bytesOf e + ((List.range (m - len)).map fun j => D (len + j)).length * P.bytesOf e) :: (DataW.weightsAll P e ((List.range len).map D) ++ DataW.weightsAll P e ((List.range (m - len)).map fun j => D (len + j)))) := fun n' => by
      rw [DataW.weights, ht]; simp [Nat.add_mul]
    have key : ∀ i, i < len → ∃ (z : α) (c0 : List Value), (E.rd W (fun k => k < W.heap.size) c0 z ∧ Q z) ∧ ∀ j, j < E.size → W.cell? (x.add (i * E.size + j)) = c0[j]? := fun i hil => by
      obtain ⟨cs', hc, ht'⟩ := hi i (by omega)
      rw [hC] at hc
      obtain ⟨_, hcl, hat⟩ := World.cells?_some hc
      obtain ⟨z, hz, hq⟩ := h.op n cs' _ ht' (fun n' hn' => hf n' ((hw n').2 (List.mem_cons_of_mem _ (List.mem_append_left _ (weightsAll_mem (List.mem_map.2 ⟨i, List.mem_range.2 hil, rfl⟩) hn')))))
      exact ⟨z, cs', ⟨hz, hq⟩, fun j hj => by rw [← add_add]; exact hat j hj⟩
    have hbytes : len * P.bytesOf e ≤ reachBytes := by
      have := hf _ ((hw _).2 List.mem_cons_self)
      simp at this
      exact Nat.le_trans (Nat.le_add_right _ _) this
    rcases Nat.eq_zero_or_pos len with h0 | h0
    · subst h0
      exact ⟨[], ⟨[], ⟨by simp, some x, cap, rfl, by simp, hm, fun h => by simp at h⟩, rfl⟩, by simp, by simp⟩
    · obtain ⟨y0, c0, ⟨hr0, _⟩, hc0⟩ := key 0 h0
      have hl0 := hE.len hr0
      have hcell0 : W.cell? (x.add (0 * E.size + 0)) = some (c0[0]'(by omega)) := by rw [hc0 0 hpos]; exact List.getElem?_eq_getElem _
      have hsp := spot_of_cell (by simpa [Addr.add] using hcell0)
      obtain ⟨b, off, sp⟩ := x
      simp at hsp
      subst hsp
      have hadd : ∀ k, (⟨b, off, none⟩ : Addr).add k = ⟨b, off + k, none⟩ := fun k => add_cell rfl
      have hlt := lt_of_cell (by rw [hadd] at hcell0; exact hcell0)
      let E' : El { z : α // Q z } := { size := E.size, rd := fun w S cs z => E.rd w S cs z.1 }
      have hE' : E'.Ok := ⟨hE.pos, fun h => hE.len h, fun h => hE.one h, fun h => hE.keep h, fun h => hE.more h⟩
      obtain ⟨l, cs, hll, hcc, hcell⟩ := cells_build (E := E') (w := W) (S := fun k => k < W.heap.size) (b := b) (off := off) hE' len fun i hi => by
        obtain ⟨z, c1, ⟨hr, hq⟩, hc⟩ := key i hi
        refine ⟨⟨z, hq⟩, c1, hr, fun j u hu => ?_⟩
        have hj : j < E.size := by have := hE.len hr; have := (List.getElem?_eq_some_iff.1 hu).1; omega
        have := hc j hj
        rw [hadd, hu] at this
        exact this
      have hcc2 : ∀ {cs : List Value} {l : List { z : α // Q z }}, Cells E' W (fun k => k < W.heap.size) cs l → Cells E W (fun k => k < W.heap.size) cs (l.map (·.1)) := by
        intro cs l
        induction l generalizing cs with
        | nil => exact fun h => h
        | cons z l ih => rintro ⟨c0, c1, e, h0, h1⟩; exact ⟨c0, c1, e, h0, ih h1⟩
      refine ⟨l.map (·.1), ⟨cs, ?_, hcc2 hcc⟩, by rw [List.length_map, hll]; exact hbytes, fun x hx => by obtain ⟨z, _, rfl⟩ := List.mem_map.1 hx; exact z.2⟩
      rw [List.length_map]
      exact ⟨hcc.len hE', some ⟨b, off, none⟩, cap, by rw [hll], by omega, hm, fun _ => ⟨b, off, rfl, hlt, hlt, fun j u hu => hcell j u hu⟩⟩
theorem opens_slice {α : Type} {E : El α} (hE : E.Ok) {t e : TypeId} {Q : α → Prop} (ht : P.underlying t = some (.slice e)) (hc : P.cellsOf t = 1) (h : Opens E enc P W spare held e Q) : Opens (ESl E) enc P W spare held t (fun l => l.length * P.bytesOf e ≤ reachBytes ∧ ∀ x ∈ l, Q x) :=
  ⟨hc, fun fuel cs y hy hf => by
    have hv : ∃ v, cs = [v] := by
      rcases open_slice ht hy with ⟨h0, _⟩ | ⟨x, len, cap, m, n, D, Pl, hcs, _⟩
      · exact ⟨_, h0⟩
      · exact ⟨_, hcs⟩
    obtain ⟨v, rfl⟩ := hv
    obtain ⟨l, h1, h2⟩ := sl_opens hE ht h hy hf
    exact ⟨l, ⟨v, rfl, h1⟩, h2⟩⟩

/-- The fields from some place on. -/
def FOp {α : Type} (E : El α) (enc : TypeId × Value → H) (P : Program) (W : World) (spare : Nat → Bool) (held : Bool) (fs : List Field) (off : Nat) (Q : α → Prop) : Prop :=
  ∀ (n : Nat) (cs : List Value) (ys : List (DataW H × List MemPlace)), cs.length = off + E.size → ys.length = fs.length →
    (∀ (i : Nat) (f : Field), fs[i]? = some f → DataW.trod enc P W 0 spare held n f.type ((cs.drop f.offset).take (P.cellsOf f.type)) = ys[i]?) → (∀ (i : Nat) (f : Field) y, fs[i]? = some f → ys[i]? = some y → Fits P f.type y.1) →
    ∃ x, E.rd W (fun k => k < W.heap.size) (cs.drop off) x ∧ Q x
theorem fop_one {α : Type} {E : El α} {f : Field} {off : Nat} {Q : α → Prop} (ho : f.offset = off) (h : Opens E enc P W spare held f.type Q) : FOp E enc P W spare held [f] off Q := by
  intro n cs ys hl hy ht hf
  obtain ⟨y, rfl⟩ : ∃ y, ys = [y] := by
    match ys, hy with
    | [y], _ => exact ⟨y, rfl⟩
  have := ht 0 f rfl
  rw [ho, h.size, List.take_of_length_le (by simp; omega)] at this
  exact h.op n _ y this (hf 0 f y rfl rfl)
theorem fop_cons {α β : Type} {E : El α} {F : El β} {f : Field} {fs : List Field} {off : Nat} {Q : α → Prop} {R : β → Prop} (ho : f.offset = off) (h : Opens E enc P W spare held f.type Q) (hr : FOp F enc P W spare held fs (off + E.size) R) :
    FOp (EPair E F) enc P W spare held (f :: fs) off (fun x => Q x.1 ∧ R x.2) := by
  intro n cs ys hl hy ht hf
  obtain ⟨y, zs, rfl⟩ : ∃ y zs, ys = y :: zs := by
    match ys, hy with
    | y :: zs, _ => exact ⟨y, zs, rfl⟩
  have hl' : cs.length = off + (E.size + F.size) := hl
  have h0 := ht 0 f rfl
  rw [ho, h.size] at h0
  obtain ⟨x1, r1, q1⟩ := h.op n _ y h0 (hf 0 f y rfl rfl)
  obtain ⟨x2, r2, q2⟩ := hr n cs zs (by omega) (by simpa using hy) (fun i g hg => by have := ht (i + 1) g (by simpa using hg); simpa using this) (fun i g z hg hz => hf (i + 1) g z (by simpa using hg) (by simpa using hz))
  refine ⟨(x1, x2), ⟨(cs.drop off).take E.size, cs.drop (off + E.size), ?_, r1, r2⟩, q1, q2⟩
  rw [← List.drop_drop, List.take_append_drop]
theorem opens_struct {α : Type} {E : El α} {t : TypeId} {fs : Array Field} {Q : α → Prop} (ht : P.underlying t = some (.struct fs)) (hc : P.cellsOf t = E.size) (h : FOp E enc P W spare held fs.toList 0 Q) : Opens E enc P W spare held t Q :=
  ⟨hc, fun fuel cs y hy hf => by
    obtain ⟨ys, n, _, hyd, hl, hyl, hfl⟩ := DataW.trod_struct ht hy
    subst hyd
    have hw : ∀ n', n' ∈ DataW.weights P t (DataW.agg (ys.map (·.1))) ↔ n' ∈ DataW.weightsEach P (fs.toList.map (·.type)) (ys.map (·.1)) := fun n' => by rw [DataW.weights, ht]
    have := h n cs ys (by rw [hl, hc]; omega) (by simpa using hyl) (fun i f hi => hfl i f (by simpa using hi)) (fun i f z hi hz n' hn' => hf n' ((hw n').2 (weightsEach_mem (i := i) (by simp [hi]) (by simp [hz]) hn')))
    simpa using this⟩
end
end Go.Proofs.Ytioplgfopillnaa

/- A piece, opened. -/
set_option linter.unusedSimpArgs false
set_option linter.unusedVariables false
namespace Go.Proofs.Ytioplgfopillnaa
open Go.ChangeShapes Go.WideShapes Go.ChangeAt Go.RowKit Go.Deep
theorem op_tok {H : Type} {enc : TypeId × Value → H} {W : World} {spare : Nat → Bool} {held : Bool} : Opens ETok enc Try.prog W spare held 44 (fun _ => True) := by
  refine (opens_struct Try.underlying44 (by kernel_rfl) (fop_cons rfl (opens_u8 Try.underlying5 (by kernel_rfl)) (fop_cons rfl (opens_int Try.underlying2 (by kernel_rfl)) (fop_cons rfl (opens_str Try.underlying9 (by kernel_rfl))
    (fop_one rfl (opens_u8 Try.underlying5 (by kernel_rfl))))))).map rfl (fun x => ⟨x.1, x.2.1, x.2.2.1, x.2.2.2⟩) ?_ ?_
  · rintro w S cs x ⟨c1, _, rfl, h1, c2, _, rfl, h2, c3, c4, rfl, h3, h4⟩
    show _ = _
    rw [show c1 = _ from h1, show c2 = _ from h2, show c3 = _ from h3, show c4 = _ from h4]; rfl
  · rintro x _
    trivial
end Go.Proofs.Ytioplgfopillnaa

/- Components at two paths leave one another: the walk made ready for the lifting; an act, opened. -/
set_option linter.unusedSimpArgs false
set_option linter.unusedVariables false
namespace Go.Proofs.Ytioplgfopillnaa
open Go.ChangeShapes Go.WideShapes Go.ChangeAt Go.RowKit Go.Deep
theorem op_act {H : Type} {enc : TypeId × Value → H} {W : World} {spare : Nat → Bool} {held : Bool} : Opens EAc enc Try.prog W spare held 25 Wf := by
  refine (opens_struct Try.underlying25 (by kernel_rfl) (fop_cons rfl (opens_slice EU8.ok Try.underlying23 (by kernel_rfl) (opens_u8 Try.underlying5 (by kernel_rfl))) (fop_cons rfl (opens_u8 Try.underlying5 (by kernel_rfl))
    (fop_cons rfl (opens_int Try.underlying3 (by kernel_rfl)) (fop_cons rfl (opens_int Try.underlying3 (by kernel_rfl)) (fop_cons rfl (opens_int Try.underlying2 (by kernel_rfl)) (fop_cons rfl (opens_str Try.underlying9 (by kernel_rfl))
    (fop_one rfl (opens_slice ETok.ok Try.underlying22 (by kernel_rfl) op_tok))))))))).map rfl (fun x => ⟨x.1, x.2.1, x.2.2.1, x.2.2.2.1, x.2.2.2.2.1, x.2.2.2.2.2.1, x.2.2.2.2.2.2⟩) ?_ ?_
  · rintro w S cs x ⟨c1, _, rfl, ⟨pv, h1, h1'⟩, c2, _, rfl, h2, c3, _, rfl, h3, c4, _, rfl, h4, c5, _, rfl, h5, c6, c7, rfl, h6, ⟨vv, h7, h7'⟩⟩
    exact ⟨pv, vv, by rw [h1, show c2 = _ from h2, show c3 = _ from h3, show c4 = _ from h4, show c5 = _ from h5, show c6 = _ from h6, h7]; rfl, h1', h7'⟩
  · rintro x ⟨_, _, h3, h4, h5, _, _⟩
    exact ⟨h3, h4, h5⟩
theorem apart07_lift {Q : Prop} (lv : Value) (l : List Tk) (cs : Array Value) (a : Ac) (ds : Array Value) (b : Ac) (left : Bool) (w : World) (h0 : Sl ETok w (fun k => k < w.heap.size) lv l) (q0 : Q) (h1 : EAc.rd w (fun k => k < w.heap.size) cs.toList a) (q1 : Wf a) (h2 : EAc.rd w (fun k => k < w.heap.size) ds.toList b) (q2 : Wf b) :
    Calls Try.prog 3 #[lv, .agg cs, .agg ds, .bool left] w fun e w' => e = .returned (.bool true) ∧ Below w.heap.size w w' := by
  obtain ⟨p1, v1, e1, a1, a2⟩ := h1
  obtain ⟨p2, v2, e2, b1, b2⟩ := h2
  exact (apart07_ok w _ _ _ lv _ _ l a b left h0 ⟨p1, v1, by rw [← Array.toArray_toList (xs := cs), e1], a1, a2⟩ ⟨p2, v2, by rw [← Array.toArray_toList (xs := ds), e2], b1, b2⟩ q1 q2).mono fun e w' h => ⟨h.1, h.2.toBelow⟩
end Go.Proofs.Ytioplgfopillnaa
