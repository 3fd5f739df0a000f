/- Bulk, BulkX, OpTok, OpSt2, TurnX: laid together. -/
import Derived.Test.YtioplgfopillnaaDoorRows
import Derived.Test.YtioplgfopillnaaDoorTtB22
import Derived.Test.YtioplgfopillnaaDoorTtB2
import Derived.Test.YtioplgfopillnaaDoorTtB7
import Derived.Test.YtioplgfopillnaaDoorTtB25
import Derived.Test.YtioplgfopillnaaDoorTtB26
/- A slice of slices as it comes in, of bulk at most so much: how many they are, how long each is. -/
set_option linter.unusedSimpArgs false
set_option linter.unusedVariables false
namespace Go.Proofs.YtioplgfopillnaaDoor
open Go.ChangeShapes Go.WideShapes Go.ChangeAt Go.RowKit Go.Deep

section
variable {H : Type} {enc : TypeId × Value → H} {P : Program} {W : World} {spare : Nat → Bool} {held : Bool}
theorem bulk_one (d : DataW H) : 1 ≤ Rows.uptoBulk d := by
  cases d with
  | lit l => cases l <;> simp [Rows.uptoBulk]
  | nil => simp [Rows.uptoBulk]
  | ptr d => simp [Rows.uptoBulk]
  | slice elems spare => simp [Rows.uptoBulk]
  | agg parts => simp [Rows.uptoBulk]
  | iface t d => simp [Rows.uptoBulk]
  | map entries => simp [Rows.uptoBulk]
  | held h => simp [Rows.uptoBulk]
theorem bulk_part {d : DataW H} : ∀ {l : List (DataW H)}, d ∈ l → Rows.uptoBulk d ≤ Rows.uptoBulkAll l
  | x :: r, h => by
    simp only [Rows.uptoBulkAll]
    rcases List.mem_cons.1 h with rfl | h
    · omega
    · have := bulk_part h; omega
theorem bulk_len : ∀ l : List (DataW H), l.length ≤ Rows.uptoBulkAll l
  | [] => Nat.zero_le _
  | x :: r => by have := bulk_one x; have := bulk_len r; simp only [Rows.uptoBulkAll, List.length_cons]; omega
end
end Go.Proofs.YtioplgfopillnaaDoor

/- Arguments of any shape, opened, of bulk at most so much: no slice and no text in them is longer. -/
set_option linter.unusedSimpArgs false
set_option linter.unusedVariables false
namespace Go.Proofs.YtioplgfopillnaaDoor
open Go.ChangeShapes Go.WideShapes Go.ChangeAt Go.RowKit Go.Deep

section
variable {H : Type} {enc : TypeId × Value → H} {P : Program} {W : World} {spare : Nat → Bool} {held : Bool} {M : Nat}
/-- Cells of type t, of bulk at most M, read as a datum of kind E, of which Q is known. -/
structure OpensB (M : Nat) {α : Type} (E : El α) (enc : TypeId × Value → H) (P : Program) (W : World) (spare : Nat → Bool) (held : Bool) (t : TypeId) (Q : α → Prop) : Prop where
  size : P.cellsOf t = E.size
  op : ∀ (fuel : Nat) (cs : List Value) (y : DataW H × List MemPlace), DataW.trod enc P W 0 spare held fuel t cs = some y → Fits P t y.1 → Rows.uptoBulk y.1 ≤ M → ∃ x, E.rd W (fun k => k < W.heap.size) cs x ∧ Q x
theorem Opens.b {α : Type} {E : El α} {t : TypeId} {Q : α → Prop} (h : Opens E enc P W spare held t Q) : OpensB M E enc P W spare held t Q := ⟨h.size, fun f cs y hy hf _ => h.op f cs y hy hf⟩
theorem OpensB.map {α β : Type} {E : El α} {F : El β} {t : TypeId} {Q : α → Prop} {R : β → Prop} (h : OpensB M E enc P W spare held t Q) (hs : F.size = E.size) (f : α → β) (hrd : ∀ w S cs x, E.rd w S cs x → F.rd w S cs (f x)) (hQ : ∀ x, Q x → R (f x)) : OpensB M F enc P W spare held t R :=
  ⟨h.size.trans hs.symm, fun fuel cs y hy hf hb => by obtain ⟨x, h1, h2⟩ := h.op fuel cs y hy hf hb; exact ⟨f x, hrd _ _ _ _ h1, hQ _ h2⟩⟩
theorem opensB_str {t : TypeId} (ht : P.underlying t = some .string) (hc : P.cellsOf t = 1) : OpensB M EStr enc P W spare held t (fun s => s.size ≤ M) :=
  ⟨hc, fun fuel cs y hy _ hb => by
    obtain ⟨s, h1, h2, _⟩ := DataW.trod_string ht hy
    subst h2
    refine ⟨s, h1, ?_⟩
    have h3 : s.data.toList.length + 1 ≤ M := hb
    rw [Array.length_toList] at h3
    show s.data.size ≤ M
    omega⟩
/-- A slice's value, its elements in sight. -/
theorem slB_opens {α : Type} {E : El α} (hE : E.Ok) {t e : TypeId} {Q : α → Prop} (ht : P.underlying t = some (.slice e)) (h : OpensB M E enc P W spare held e Q) {fuel : Nat} {v : Value} {y : DataW H × List MemPlace}
    (hy : DataW.trod enc P W 0 spare held fuel t [v] = some y) (hf : Fits P t y.1) (hb : Rows.uptoBulk y.1 ≤ M) : ∃ l : List α, Sl E W (fun k => k < W.heap.size) v l ∧ l.length ≤ M ∧ ∀ x ∈ l, Q x := by
  rcases open_slice ht hy with ⟨h0, _⟩ | ⟨x, len, cap, m, n, D, Pl, hcs, _, hl, hm, hmm, hd, hi⟩
  · obtain rfl : v = .slice none 0 0 := by simpa using h0
    exact ⟨[], Sl.nil _ _, by simp, by simp⟩
  · obtain rfl : v = .slice (some x) len cap := by simpa using hcs
    subst hd
    have hlen : len ≤ m := by rw [hmm]; split <;> omega
    have hpos := hE.pos
    have hC := h.size
    have hw : ∀ n', n' ∈ DataW.weights P t (DataW.slice ((List.range len).map D) ((List.range (m - len)).map fun j => D (len + j))) ↔ n' ∈ ((((List.range len).map D).length * P.bytesOf e + ((List.range (m - len)).map fun j => D (len + j)).length * P.bytesOf e) :: (DataW.weightsAll P e ((List.range len).map D) ++ DataW.weightsAll P e ((List.range (m - len)).map fun j => D (len + j)))) := fun n' => by
      rw [DataW.weights, ht]; simp [Nat.add_mul]
    have key : ∀ i, i < len → ∃ (z : α) (c0 : List Value), (E.rd W (fun k => k < W.heap.size) c0 z ∧ Q z) ∧ ∀ j, j < E.size → W.cell? (x.add (i * E.size + j)) = c0[j]? := fun i hil => by
      obtain ⟨cs', hc, ht'⟩ := hi i (by omega)
      rw [hC] at hc
      obtain ⟨_, hcl, hat⟩ := World.cells?_some hc
      obtain ⟨z, hz, hq⟩ := h.op n cs' _ ht' (fun n' hn' => hf n' ((hw n').2 (List.mem_cons_of_mem _ (List.mem_append_left _ (weightsAll_mem (List.mem_map.2 ⟨i, List.mem_range.2 hil, rfl⟩) hn'))))) (by have h4 : Rows.uptoBulk (D i) ≤ Rows.uptoBulkAll ((List.range len).map D) := bulk_part (List.mem_map.2 ⟨i, List.mem_range.2 hil, rfl⟩); simp only [Rows.uptoBulk] at hb; show Rows.uptoBulk (D i) ≤ M; omega)
      exact ⟨z, cs', ⟨hz, hq⟩, fun j hj => by rw [← add_add]; exact hat j hj⟩
    have hbytes : len ≤ M := by
      have := bulk_len ((List.range len).map D)
      rw [List.length_map, List.length_range] at this
      simp only [Rows.uptoBulk] at hb
      omega
    rcases Nat.eq_zero_or_pos len with h0 | h0
    · subst h0
      exact ⟨[], ⟨[], ⟨by simp, some x, cap, rfl, by simp, hm, fun h => by simp at h⟩, rfl⟩, by simp, by simp⟩
    · obtain ⟨y0, c0, ⟨hr0, _⟩, hc0⟩ := key 0 h0
      have hl0 := hE.len hr0
      have hcell0 : W.cell? (x.add (0 * E.size + 0)) = some (c0[0]'(by omega)) := by rw [hc0 0 hpos]; exact List.getElem?_eq_getElem _
      have hsp := spot_of_cell (by simpa [Addr.add] using hcell0)
      obtain ⟨b, off, sp⟩ := x
      simp at hsp
      subst hsp
      have hadd : ∀ k, (⟨b, off, none⟩ : Addr).add k = ⟨b, off + k, none⟩ := fun k => add_cell rfl
      have hlt := lt_of_cell (by rw [hadd] at hcell0; exact hcell0)
      let E' : El { z : α // Q z } := { size := E.size, rd := fun w S cs z => E.rd w S cs z.1 }
      have hE' : E'.Ok := ⟨hE.pos, fun h => hE.len h, fun h => hE.one h, fun h => hE.keep h, fun h => hE.more h⟩
      obtain ⟨l, cs, hll, hcc, hcell⟩ := cells_build (E := E') (w := W) (S := fun k => k < W.heap.size) (b := b) (off := off) hE' len fun i hi => by
        obtain ⟨z, c1, ⟨hr, hq⟩, hc⟩ := key i hi
        refine ⟨⟨z, hq⟩, c1, hr, fun j u hu => ?_⟩
        have hj : j < E.size := by have := hE.len hr; have := (List.getElem?_eq_some_iff.1 hu).1; omega
        have := hc j hj
        rw [hadd, hu] at this
        exact this
      have hcc2 : ∀ {cs : List Value} {l : List { z : α // Q z }}, Cells E' W (fun k => k < W.heap.size) cs l → Cells E W (fun k => k < W.heap.size) cs (l.map (·.1)) := by
        intro cs l
        induction l generalizing cs with
        | nil => exact fun h => h
        | cons z l ih => rintro ⟨c0, c1, e, h0, h1⟩; exact ⟨c0, c1, e, h0, ih h1⟩
      refine ⟨l.map (·.1), ⟨cs, ?_, hcc2 hcc⟩, by rw [List.length_map, hll]; exact hbytes, fun x hx => by obtain ⟨z, _, rfl⟩ := List.mem_map.1 hx; exact z.2⟩
      rw [List.length_map]
      exact ⟨hcc.len hE', some ⟨b, off, none⟩, cap, by rw [hll], by omega, hm, fun _ => ⟨b, off, rfl, hlt, hlt, fun j u hu => hcell j u hu⟩⟩
theorem opensB_slice {α : Type} {E : El α} (hE : E.Ok) {t e : TypeId} {Q : α → Prop} (ht : P.underlying t = some (.slice e)) (hc : P.cellsOf t = 1) (h : OpensB M E enc P W spare held e Q) : OpensB M (ESl E) enc P W spare held t (fun l => l.length ≤ M ∧ ∀ x ∈ l, Q x) :=
  ⟨hc, fun fuel cs y hy hf hb => by
    have hv : ∃ v, cs = [v] := by
      rcases open_slice ht hy with ⟨h0, _⟩ | ⟨x, len, cap, m, n, D, Pl, hcs, _⟩
      · exact ⟨_, h0⟩
      · exact ⟨_, hcs⟩
    obtain ⟨v, rfl⟩ := hv
    obtain ⟨l, h1, h2⟩ := slB_opens hE ht h hy hf hb
    exact ⟨l, ⟨v, rfl, h1⟩, h2⟩⟩

/-- The fields from some place on. -/
def FOpB (M : Nat) {α : Type} (E : El α) (enc : TypeId × Value → H) (P : Program) (W : World) (spare : Nat → Bool) (held : Bool) (fs : List Field) (off : Nat) (Q : α → Prop) : Prop :=
  ∀ (n : Nat) (cs : List Value) (ys : List (DataW H × List MemPlace)), cs.length = off + E.size → ys.length = fs.length →
    (∀ (i : Nat) (f : Field), fs[i]? = some f → DataW.trod enc P W 0 spare held n f.type ((cs.drop f.offset).take (P.cellsOf f.type)) = ys[i]?) → (∀ (i : Nat) (f : Field) y, fs[i]? = some f → ys[i]? = some y → Fits P f.type y.1 ∧ Rows.uptoBulk y.1 ≤ M) →
    ∃ x, E.rd W (fun k => k < W.heap.size) (cs.drop off) x ∧ Q x
theorem fopB_one {α : Type} {E : El α} {f : Field} {off : Nat} {Q : α → Prop} (ho : f.offset = off) (h : OpensB M E enc P W spare held f.type Q) : FOpB M E enc P W spare held [f] off Q := by
  intro n cs ys hl hy ht hf
  obtain ⟨y, rfl⟩ : ∃ y, ys = [y] := by
    match ys, hy with
    | [y], _ => exact ⟨y, rfl⟩
  have := ht 0 f rfl
  rw [ho, h.size, List.take_of_length_le (by simp; omega)] at this
  exact h.op n _ y this (hf 0 f y rfl rfl).1 (hf 0 f y rfl rfl).2
theorem fopB_cons {α β : Type} {E : El α} {F : El β} {f : Field} {fs : List Field} {off : Nat} {Q : α → Prop} {R : β → Prop} (ho : f.offset = off) (h : OpensB M E enc P W spare held f.type Q) (hr : FOpB M F enc P W spare held fs (off + E.size) R) :
    FOpB M (EPair E F) enc P W spare held (f :: fs) off (fun x => Q x.1 ∧ R x.2) := by
  intro n cs ys hl hy ht hf
  obtain ⟨y, zs, rfl⟩ : ∃ y zs, ys = y :: zs := by
    match ys, hy with
    | y :: zs, _ => exact ⟨y, zs, rfl⟩
  have hl' : cs.length = off + (E.size + F.size) := hl
  have h0 := ht 0 f rfl
  rw [ho, h.size] at h0
  obtain ⟨x1, r1, q1⟩ := h.op n _ y h0 (hf 0 f y rfl rfl).1 (hf 0 f y rfl rfl).2
  obtain ⟨x2, r2, q2⟩ := hr n cs zs (by omega) (by simpa using hy) (fun i g hg => by have := ht (i + 1) g (by simpa using hg); simpa using this) (fun i g z hg hz => hf (i + 1) g z (by simpa using hg) (by simpa using hz))
  refine ⟨(x1, x2), ⟨(cs.drop off).take E.size, cs.drop (off + E.size), ?_, r1, r2⟩, q1, q2⟩
  rw [← List.drop_drop, List.take_append_drop]
theorem opensB_struct {α : Type} {E : El α} {t : TypeId} {fs : Array Field} {Q : α → Prop} (ht : P.underlying t = some (.struct fs)) (hc : P.cellsOf t = E.size) (h : FOpB M E enc P W spare held fs.toList 0 Q) : OpensB M E enc P W spare held t Q :=
  ⟨hc, fun fuel cs y hy hf hb => by
    obtain ⟨ys, n, _, hyd, hl, hyl, hfl⟩ := DataW.trod_struct ht hy
    subst hyd
    have hw : ∀ n', n' ∈ DataW.weights P t (DataW.agg (ys.map (·.1))) ↔ n' ∈ DataW.weightsEach P (fs.toList.map (·.type)) (ys.map (·.1)) := fun n' => by rw [DataW.weights, ht]
    have := h n cs ys (by rw [hl, hc]; omega) (by simpa using hyl) (fun i f hi => hfl i f (by simpa using hi)) (fun i f z hi hz => ⟨fun n' hn' => hf n' ((hw n').2 (weightsEach_mem (i := i) (by simp [hi]) (by simp [hz]) hn')), by have h4 : Rows.uptoBulk z.1 ≤ Rows.uptoBulkAll (ys.map (·.1)) := bulk_part (List.mem_map.2 ⟨z, List.mem_of_getElem? hz, rfl⟩); simp only [Rows.uptoBulk] at hb; omega⟩)
    simpa using this⟩
end
end Go.Proofs.YtioplgfopillnaaDoor

/- A piece, opened. -/
set_option linter.unusedSimpArgs false
set_option linter.unusedVariables false
namespace Go.Proofs.YtioplgfopillnaaDoor
open Go.ChangeShapes Go.WideShapes Go.ChangeAt Go.RowKit Go.Deep
end Go.Proofs.YtioplgfopillnaaDoor

/- A step, opened; its key is no longer than a process's memory. -/
set_option linter.unusedSimpArgs false
set_option linter.unusedVariables false
namespace Go.Proofs.YtioplgfopillnaaDoor
open Go.ChangeShapes Go.WideShapes Go.ChangeAt Go.RowKit Go.Deep
theorem op_st2 {H : Type} {enc : TypeId × Value → H} {W : World} {spare : Nat → Bool} {held : Bool} : Opens ESt enc Tryd.prog W spare held 59 (fun s => s.key.size ≤ reachBytes) := by
  refine (opens_struct Tryd.underlying59 (by kernel_rfl) (fop_cons rfl (opens_bool Tryd.underlying4 (by kernel_rfl)) (fop_cons rfl (opens_int Tryd.underlying3 (by kernel_rfl)) (fop_one rfl (opens_str Tryd.underlying9 (by kernel_rfl)))))).map rfl (fun x => ⟨x.1, x.2.1, x.2.2⟩) ?_ ?_
  · rintro w S cs x ⟨c1, _, rfl, h1, c2, c3, rfl, h2, h3⟩
    show _ = _
    rw [show c1 = _ from h1, show c2 = _ from h2, show c3 = _ from h3]; rfl
  · rintro x ⟨_, _, h⟩
    exact h
end Go.Proofs.YtioplgfopillnaaDoor

/- A bare component, opened; the law's far and below; Comp. -/
set_option linter.unusedSimpArgs false
set_option linter.unusedVariables false
namespace Go.Proofs.YtioplgfopillnaaDoor
open Go.RowKit Go.ChangeShapes Go.WideShapes Go.ChangeAt Go.Deep
set_option linter.unusedVariables false

abbrev TBARE : Nat := 25
/-- A component, as it comes in. -/
structure Br where
  kind : UInt8
  path : List St
  key : ByteArray
  i : Int
  j : Int
  n : Int
  s : ByteArray
  v : List Tk
abbrev brCells (b : Br) (pv vv : Value) : Array Value := #[U8 b.kind, pv, .string b.key, .int .i64 b.i, .int .i64 b.j, .int .i64 b.n, .string b.s, vv]
def BrAt (w : World) (S : BS) (u : Value) (b : Br) : Prop := ∃ pv vv, u = .agg (brCells b pv vv) ∧ Sl ESt w S pv b.path ∧ Sl ETok w S vv b.v
theorem BrAt.ext {w w' : World} {S : BS} {u : Value} {b : Br} (h : BrAt w S u b) (he : Ext w w') : BrAt w' S u b := by
  obtain ⟨pv, vv, h1, h2, h3⟩ := h; exact ⟨pv, vv, h1, h2.ext ESt.ok he, h3.ext ETok.ok he⟩
def EBr : El Br := { size := 8, rd := fun w S cs b => ∃ pv vv, cs = [U8 b.kind, pv, .string b.key, .int .i64 b.i, .int .i64 b.j, .int .i64 b.n, .string b.s, vv] ∧ Sl ESt w S pv b.path ∧ Sl ETok w S vv b.v }
/-- How much there is of it. -/
structure BrOk (b : Br) : Prop where
  key : b.key.size ≤ 1048576
  s : b.s.size ≤ 1048576
  v : b.v.length ≤ 1048576
  t : ∀ t ∈ b.v, t.s.size ≤ 1048576
theorem op_tokB {H : Type} {enc : TypeId × Value → H} {W : World} {spare : Nat → Bool} {held : Bool} : OpensB 1048576 ETok enc Tryd.prog W spare held 57 (fun t => t.s.size ≤ 1048576) := by
  refine (opensB_struct Tryd.underlying57 (by kernel_rfl) (fopB_cons rfl (opens_u8 Tryd.underlying5 (by kernel_rfl)).b (fopB_cons rfl (opens_int Tryd.underlying2 (by kernel_rfl)).b (fopB_cons rfl (opensB_str Tryd.underlying9 (by kernel_rfl))
    (fopB_one rfl (opens_u8 Tryd.underlying5 (by kernel_rfl)).b))))).map rfl (fun x => ⟨x.1, x.2.1, x.2.2.1, x.2.2.2⟩) ?_ ?_
  · rintro w S cs x ⟨c1, _, rfl, h1, c2, _, rfl, h2, c3, c4, rfl, h3, h4⟩
    show _ = _
    rw [show c1 = _ from h1, show c2 = _ from h2, show c3 = _ from h3, show c4 = _ from h4]; rfl
  · rintro x ⟨_, _, h, _⟩
    exact h
theorem op_bare {H : Type} {enc : TypeId × Value → H} {W : World} {spare : Nat → Bool} {held : Bool} : OpensB 1048576 EBr enc Tryd.prog W spare held 25 BrOk := by
  refine (opensB_struct Tryd.underlying25 (by kernel_rfl) (fopB_cons rfl (opens_u8 Tryd.underlying5 (by kernel_rfl)).b (fopB_cons rfl (opensB_slice ESt.ok Tryd.underlying22 (by kernel_rfl) op_st2.b)
    (fopB_cons rfl (opensB_str Tryd.underlying9 (by kernel_rfl)) (fopB_cons rfl (opens_int Tryd.underlying3 (by kernel_rfl)).b (fopB_cons rfl (opens_int Tryd.underlying3 (by kernel_rfl)).b (fopB_cons rfl (opens_int Tryd.underlying2 (by kernel_rfl)).b (fopB_cons rfl (opensB_str Tryd.underlying9 (by kernel_rfl))
    (fopB_one rfl (opensB_slice ETok.ok Tryd.underlying23 (by kernel_rfl) op_tokB)))))))))).map rfl (fun x => ⟨x.1, x.2.1, x.2.2.1, x.2.2.2.1, x.2.2.2.2.1, x.2.2.2.2.2.1, x.2.2.2.2.2.2.1, x.2.2.2.2.2.2.2⟩) ?_ ?_
  · rintro w S cs x ⟨c1, _, rfl, h1, c2, _, rfl, ⟨pv, h2, h2'⟩, c3, _, rfl, h3, c4, _, rfl, h4, c5, _, rfl, h5, c6, _, rfl, h6, c7, c8, rfl, h7, ⟨vv, h8, h8'⟩⟩
    exact ⟨pv, vv, by rw [show c1 = _ from h1, h2, show c3 = _ from h3, show c4 = _ from h4, show c5 = _ from h5, show c6 = _ from h6, show c7 = _ from h7, h8]; rfl, h2', h8'⟩
  · rintro x ⟨_, _, h3, _, _, _, h7, h8, h9⟩
    exact ⟨h3, h7, h8, h9⟩
def FarIs (b : Br) (w : World) (e : Ending) (w' : World) : Prop := ∃ bb : Bool, e = .returned (.bool bb) ∧ Ext w w' ∧ (bb = false → b.s.size ≤ 2000 ∧ b.path.length ≤ 30 ∧ (-1073741824 ≤ b.i ∧ b.i ≤ 1073741824) ∧ (-1073741824 ≤ b.j ∧ b.j ≤ 1073741824) ∧ -1073741824 ≤ b.n ∧ b.n ≤ 1073741824)
set_option maxRecDepth 20000 in
set_option maxHeartbeats 6400000 in
theorem far7_ok (w : World) (S : BS) (u : Value) (b : Br) (hb : BrAt w S u b) (ho : BrOk b) : Calls Tryd.prog 7 #[u] w (FarIs b w) := by
  obtain ⟨pv, vv, rfl, h1, h2⟩ := hb
  obtain ⟨Ap, cp, rfl, _⟩ := h1.shape
  obtain ⟨Av, cv, rfl, hlc, hcm⟩ := h2.shape
  unfold maxLen at hcm
  obtain ⟨hok1, hok2, hok3, hok4⟩ := ho
  obtain ⟨W, hW⟩ : ∃ W, w.alloc (.cells (brCells b (.slice Ap b.path.length cp) (.slice Av b.v.length cv)) TBARE) = W := ⟨_, rfl⟩
  have hE : Ext w W := by rw [← hW]; exact (Keep.refl _ _).alloc _
  have hbb : Blk W w.heap.size TBARE (brCells b (.slice Ap b.path.length cp) (.slice Av b.v.length cv)) := by rw [← hW]; exact Blk.new _ _ _
  have HV := hid (h2.ext ETok.ok hE)
  have HE := hid hE
  obtain ⟨n, hn⟩ : ∃ n, b.v.length = n := ⟨_, rfl⟩
  have HN := hid hn
  have x0 := hbb.cell 0
  have x1 := hbb.cell 1
  have x2 := hbb.cell 2
  have x3 := hbb.cell 3
  have x4 := hbb.cell 4
  have x5 := hbb.cell 5
  have x6 := hbb.cell 6
  have x7 := hbb.cell 7
  simp at x0 x1 x2 x3 x4 x5 x6 x7
  rw [hn] at x7 hlc hok3 HV
  rw [hn] at hW
  have HT := hid hok4
  have HW := hid hW
  clear h1 h2 hE hbb hn hok4
  rw [HN.out]
  go_enter Tryd.func7, Tryd.ntmps7
  go_wp2_with fail
  go_loopw [3, 4] (fun y i wr => ∃ (j : Nat) (z : Int), j ≤ n ∧ i = .int .i64 j ∧ y = .int .i64 z ∧ (b.s.size : Int) ≤ z ∧ z ≤ 2097152 + j * 1048577 ∧ wr = W) (fun _ i _ => n - (intOf i).toNat)
  case atStart => exact ⟨0, _, by omega, rfl, rfl, by omega, by omega, rfl⟩
  case round =>
    obtain ⟨j, z, hj, rfl, rfl, hz1, hz2, rfl⟩ := hrel
    have hz3 : 0 ≤ z := by omega
    have hz4 : z ≤ 1100000000000 := by
      have : (j : Int) * 1048577 ≤ 1048576 * 1048577 := Int.mul_le_mul_of_nonneg_right (by omega) (by decide)
      omega
    by_cases hlt : j < n
    · have hX : (j : Int) < n := by omega
      have hj' : j < b.v.length := by rw [HN.out]; exact hlt
      obtain ⟨b2, o2, c2, rfl, _, _, hr2, hc2⟩ := HV.out.at_ ETok.ok hj'
      have hts := HT.out _ (List.getElem_mem hj')
      generalize b.v[j] = t at *
      have hr2 : c2 = [U8 _, .int .i64 _, .string _, U8 _] := hr2
      subst hr2
      have t2 := hc2 2 _ rfl
      have e4 : ETok.size = 4 := rfl
      simp only [e4] at t2
      have HZ1 := hid hz1
      have HZ2 := hid hz2
      clear hc2 e4 hz1 hz2 hj'
      go_wp2
      exact ⟨⟨j + 1, _, by omega, by go_num, rfl, by have := HZ1.out; omega, by have := HZ2.out; push_cast; omega, by first | trivial | rfl⟩, by simp [intOf]; omega⟩
    · obtain rfl : j = n := by omega
      have hX : ¬ (j : Int) < j := by omega
      have HZ1 := hid hz1
      clear hz1 hz2
      by_cases c0 : (2000 : Int) < z
      · go_wp2
        go_ret
        exact ⟨true, rfl, HE.out, fun h => by cases h⟩
      by_cases c1 : (30 : Int) < b.path.length
      · go_wp2
        go_ret
        exact ⟨true, rfl, HE.out, fun h => by cases h⟩
      by_cases c2 : (1073741824 : Int) < b.i
      · go_wp2
        go_ret
        exact ⟨true, rfl, HE.out, fun h => by cases h⟩
      by_cases c3 : b.i < -1073741824
      · go_wp2
        go_ret
        exact ⟨true, rfl, HE.out, fun h => by cases h⟩
      by_cases c4 : (1073741824 : Int) < b.j
      · go_wp2
        go_ret
        exact ⟨true, rfl, HE.out, fun h => by cases h⟩
      by_cases c5 : b.j < -1073741824
      · go_wp2
        go_ret
        exact ⟨true, rfl, HE.out, fun h => by cases h⟩
      by_cases c6 : (1073741824 : Int) < b.n
      · go_wp2
        go_ret
        exact ⟨true, rfl, HE.out, fun h => by cases h⟩
      by_cases c7 : b.n < -1073741824
      · go_wp2
        go_ret
        exact ⟨true, rfl, HE.out, fun h => by cases h⟩
      go_wp2
      go_ret
      exact ⟨false, rfl, HE.out, fun _ => ⟨by have := HZ1.out; omega, by omega, ⟨by omega, by omega⟩, ⟨by omega, by omega⟩, by omega, by omega⟩⟩
def BelowIs (b : Br) (w : World) (e : Ending) (w' : World) : Prop := ∃ bb : Bool, e = .returned (.bool bb) ∧ Ext w w' ∧ (bb = false → (∀ s ∈ b.path, 0 ≤ s.i ∧ s.i ≤ 1073741824) ∧ 0 ≤ b.i ∧ 0 ≤ b.j ∧ 0 ≤ b.n)
set_option maxRecDepth 20000 in
set_option maxHeartbeats 6400000 in
theorem below7_ok (w : World) (S : BS) (u : Value) (b : Br) (hb : BrAt w S u b) : Calls Tryd.prog 8 #[u] w (BelowIs b w) := by
  obtain ⟨pv, vv, rfl, h1, h2⟩ := hb
  obtain ⟨Ap, cp, rfl, hlc, hcm⟩ := h1.shape
  obtain ⟨Av, cv, rfl, _⟩ := h2.shape
  unfold maxLen at hcm
  obtain ⟨W, hW⟩ : ∃ W, w.alloc (.cells (brCells b (.slice Ap b.path.length cp) (.slice Av b.v.length cv)) TBARE) = W := ⟨_, rfl⟩
  have hE : Ext w W := by rw [← hW]; exact (Keep.refl _ _).alloc _
  have hbb : Blk W w.heap.size TBARE (brCells b (.slice Ap b.path.length cp) (.slice Av b.v.length cv)) := by rw [← hW]; exact Blk.new _ _ _
  have HV := hid (h1.ext ESt.ok hE)
  have HE := hid hE
  obtain ⟨n, hn⟩ : ∃ n, b.path.length = n := ⟨_, rfl⟩
  have HN := hid hn
  have x0 := hbb.cell 0
  have x1 := hbb.cell 1
  have x2 := hbb.cell 2
  have x3 := hbb.cell 3
  have x4 := hbb.cell 4
  have x5 := hbb.cell 5
  have x6 := hbb.cell 6
  have x7 := hbb.cell 7
  simp at x0 x1 x2 x3 x4 x5 x6 x7
  rw [hn] at x1 hlc HV
  rw [hn] at hW
  clear h1 h2 hE hbb hn
  rw [HN.out]
  go_enter Tryd.func8, Tryd.ntmps8
  go_wp2_with fail
  go_loopw [3] (fun i wr => ∃ (j : Nat), j ≤ n ∧ i = .int .i64 j ∧ (∀ s ∈ b.path.take j, 0 ≤ s.i ∧ s.i ≤ 1073741824) ∧ wr = W) (fun i _ => n - (intOf i).toNat)
  case atStart => exact ⟨0, by omega, rfl, (by simp), rfl⟩
  case round =>
    obtain ⟨j, hj, rfl, hs, rfl⟩ := hrel
    have HS := hid hs
    clear hs
    by_cases hlt : j < n
    · have hX : (j : Int) < n := by omega
      have hj' : j < b.path.length := by rw [HN.out]; exact hlt
      obtain ⟨b2, o2, c2, rfl, _, _, hr2, hc2⟩ := HV.out.at_ ESt.ok hj'
      have HT := hid (List.take_succ_eq_append_getElem hj')
      generalize b.path[j] = t at *
      have hr2 : c2 = [.bool t.list, .int .i64 t.i, .string t.key] := hr2
      subst hr2
      have t0 := hc2 0 _ rfl
      have t1 := hc2 1 _ rfl
      have e3 : ESt.size = 3 := rfl
      simp only [e3, Nat.add_zero] at t0 t1
      clear hc2 e3 hj'
      by_cases c0 : t.i < 0
      · go_wp2
        go_ret
        exact ⟨true, rfl, HE.out, fun h => by cases h⟩
      by_cases c1 : (1073741824 : Int) < t.i
      · go_wp2
        go_ret
        exact ⟨true, rfl, HE.out, fun h => by cases h⟩
      go_wp2
      exact ⟨⟨j + 1, by omega, by go_num, fun s hs => by
        rw [HT.out] at hs
        rcases List.mem_append.1 hs with h | h
        · exact HS.out s h
        · rw [List.mem_singleton.1 h]; omega, by first | trivial | rfl⟩, by simp [intOf]; omega⟩
    · obtain rfl : j = n := by omega
      have hX : ¬ (j : Int) < j := by omega

      by_cases d0 : b.i < 0
      · go_wp2
        go_ret
        exact ⟨true, rfl, HE.out, fun h => by cases h⟩
      by_cases d1 : b.j < 0
      · go_wp2
        go_ret
        exact ⟨true, rfl, HE.out, fun h => by cases h⟩
      by_cases d2 : b.n < 0
      · go_wp2
        go_ret
        exact ⟨true, rfl, HE.out, fun h => by cases h⟩
      go_wp2
      go_ret
      exact ⟨false, rfl, HE.out, fun _ => ⟨fun s hs => HS.out s (by rw [List.take_of_length_le (by rw [HN.out]; exact Nat.le_refl _)]; exact hs), by omega, by omega, by omega⟩⟩
abbrev brCp (b : Br) (x : V) : Cp := ⟨b.kind, b.path, b.key, b.i, b.j, b.n, x, b.s⟩
def Comp6Is (b : Br) (w : World) (e : Ending) (w' : World) : Prop := ∃ (x : V) (p q l m o r : Nat) (P L O : Option Addr), e = .returned (.agg #[U8 b.kind, .slice P p q, .string b.key, .int .i64 b.i, .int .i64 b.j, .int .i64 b.n, U8 x.kind, .int .i64 x.n, .string x.s, .slice L l m, .slice O o r, .string b.s]) ∧ x.size ≤ 241 ∧
  CAt w' (fun _ => True) (.agg #[U8 b.kind, .slice P p q, .string b.key, .int .i64 b.i, .int .i64 b.j, .int .i64 b.n, U8 x.kind, .int .i64 x.n, .string x.s, .slice L l m, .slice O o r, .string b.s]) (brCp b x) ∧ Ext w w'
def RawO (B : Nat) (v : Value) (w : World) : Prop := (∃ (k n : Int) (s : ByteArray) (L : Option Addr) (l m : Nat) (O : Option Addr) (o r : Nat), v = .agg #[.int .u8 k, .int .i64 n, .string s, .slice L l m, .slice O o r]) ∧ ∃ x : V, x.size ≤ 241 ∧ VAt w (fun k => B ≤ k) v x
theorem RawO.ext {B : Nat} {v : Value} {w w' : World} (h : RawO B v w) (he : Ext w w') : RawO B v w' := by
  obtain ⟨h1, x, h2, h3⟩ := h; exact ⟨h1, x, h2, h3.ext he⟩
set_option maxRecDepth 20000 in
set_option maxHeartbeats 6400000 in
theorem comp6_ok (w : World) (S : BS) (u : Value) (b : Br) (hb : BrAt w S u b) : Calls Tryd.prog 10 #[u] w (Comp6Is b w) := by
  obtain ⟨pv, vv, rfl, h1, h2⟩ := hb
  obtain ⟨Ap, cp, rfl, hlc, hcm⟩ := h1.shape
  obtain ⟨Av, cv, rfl, _⟩ := h2.shape
  obtain ⟨W, hW⟩ : ∃ W, (w.alloc (.cells (brCells b (.slice Ap b.path.length cp) (.slice Av b.v.length cv)) TBARE)) = W := ⟨_, rfl⟩
  have hE : Ext w W := by rw [← hW]; exact (Keep.refl _ _).alloc _
  have hbb : Blk W w.heap.size TBARE (brCells b (.slice Ap b.path.length cp) (.slice Av b.v.length cv)) := by rw [← hW]; exact Blk.new _ _ _
  obtain ⟨W2, hW2⟩ : ∃ W2, W.alloc (.cells ZCMP TCMP) = W2 := ⟨_, rfl⟩
  have hE2 : Ext W W2 := by rw [← hW2]; exact (Keep.refl _ _).alloc _
  have hr : Blk W2 W.heap.size TCMP ZCMP := by rw [← hW2]; exact Blk.new _ _ _
  have hsz : W.heap.size = w.heap.size + 1 := by rw [← hW]; simp
  have hb2 := hbb.keep hE2 id
  have HP := hid ((h1.more (S' := fun k => k < w.heap.size) ESt.ok fun k h _ => h).ext ESt.ok (hE.ext hE2))
  have HV := hid (h2.ext ETok.ok (hE.ext hE2))
  have HE := hid (hE.ext hE2)
  have HR := hid hr
  have x0 := hb2.cell 0
  have x1 := hb2.cell 1
  have x2 := hb2.cell 2
  have x3 := hb2.cell 3
  have x4 := hb2.cell 4
  have x5 := hb2.cell 5
  have x6 := hb2.cell 6
  have x7 := hb2.cell 7
  simp at x0 x1 x2 x3 x4 x5 x6 x7
  have HSZ := hid hsz
  clear h1 h2 hE hE2 hbb hb2 hr hsz
  go_enter Tryd.func10, Tryd.ntmps10
  go_wp2_with fail
  refine wp_region_parts [] [0, 1, 2, 3, 4, 5, 6, 7, 8, 9, 10, 11, 12, 13, 14, 15, 16, 17] [18] (specOf [(16, RawO W2.heap.size)]) (fun w' => Ext W2 w') (stable_cons (fun v w w' h he => RawO.ext h he) stable_nil) (stableC_ext _) (by kernel_rfl) (by kernel_rfl) (Keep.drew (Keep.refl _ _)) ?_
  refine pure_nil ?_
  iterate 16
    (try simp only [Act.put, List.setIfInBounds_toArray, List.set_cons_zero, List.set_cons_succ])
    refine growP_run rfl rfl rfl ?_
    apply Exists.intro
    refine ⟨fun w' hC hK => ?_, ?_⟩
    · have x0 := (hC.cell (lt_of_cell x0) id).trans x0
      have x1 := (hC.cell (lt_of_cell x1) id).trans x1
      have x2 := (hC.cell (lt_of_cell x2) id).trans x2
      have x3 := (hC.cell (lt_of_cell x3) id).trans x3
      have x4 := (hC.cell (lt_of_cell x4) id).trans x4
      have x5 := (hC.cell (lt_of_cell x5) id).trans x5
      have x6 := (hC.cell (lt_of_cell x6) id).trans x6
      have x7 := (hC.cell (lt_of_cell x7) id).trans x7
      go_simp
      rfl
  (try simp only [Act.put, List.setIfInBounds_toArray, List.set_cons_zero, List.set_cons_succ])
  refine growP_eff rfl rfl rfl (fun w' hC hK => ?_) (fun v16 hv16 => ?_)
  · unfold growAt
    go_simp
    refine grow_call ((rawall2_ok b.v _ _ w' (HV.out.ext ETok.ok hC)).mono ?_)
    rintro e w'' ⟨u, x, rfl, ⟨hx, _⟩, ⟨lv, ov, rfl, r1, r2⟩, h2⟩
    obtain ⟨L, m, rfl, _⟩ := r1.shape
    obtain ⟨O, r, rfl, _⟩ := r2.shape
    exact ⟨_, rfl, h2, ⟨_, _, _, L, _, m, O, _, r, rfl⟩, x, hx, (show VAt w'' (fun k => w'.heap.size ≤ k) _ x from ⟨_, _, rfl, r1, r2⟩).more fun k _ h => by have := hC.size; show W2.heap.size ≤ k; omega⟩
  obtain ⟨_, _, ⟨kk, nn, ss, L, l, m, O, o, r, rfl⟩, _⟩ := hv16.head
  iterate 1
    (try simp only [Act.put, List.setIfInBounds_toArray, List.set_cons_zero, List.set_cons_succ])
    refine growP_run rfl rfl rfl ?_
    apply Exists.intro
    refine ⟨fun w' hC hK => ?_, ?_⟩
    · go_simp
      rfl
  refine growP_nil fun w2 hC hK => ?_
  have hf : RawO W2.heap.size (.agg #[.int .u8 kk, .int .i64 nn, .string ss, .slice L l m, .slice O o r]) w2 := hK (16, _) List.mem_cons_self
  have HC := hid (show Ext W2 w2 from hC)
  have HF := hid hf.2
  have hr2 := HR.out.keep HC.out id
  have z0 := hr2.cell 0
  have g0 := hr2.frozen 0
  have z1 := hr2.cell 1
  have g1 := hr2.frozen 1
  have z2 := hr2.cell 2
  have g2 := hr2.frozen 2
  have z3 := hr2.cell 3
  have g3 := hr2.frozen 3
  have z4 := hr2.cell 4
  have g4 := hr2.frozen 4
  have z5 := hr2.cell 5
  have g5 := hr2.frozen 5
  have z6 := hr2.cell 6
  have g6 := hr2.frozen 6
  have z7 := hr2.cell 7
  have g7 := hr2.frozen 7
  have z8 := hr2.cell 8
  have g8 := hr2.frozen 8
  have z9 := hr2.cell 9
  have g9 := hr2.frozen 9
  have z10 := hr2.cell 10
  have g10 := hr2.frozen 10
  have z11 := hr2.cell 11
  have g11 := hr2.frozen 11
  simp at z0 z1 z2 z3 z4 z5 z6 z7 z8 z9 z10 z11
  have HKZ := hid (show Keep (· = W.heap.size) w2 ((((((((((((w2.setCell ⟨W.heap.size, 0, none⟩ (.int .u8 (b.kind.toNat : Int))).setCell ⟨W.heap.size, 1, none⟩ (.slice Ap b.path.length cp)).setCell ⟨W.heap.size, 2, none⟩ (.string b.key)).setCell ⟨W.heap.size, 3, none⟩ (.int .i64 b.i)).setCell ⟨W.heap.size, 4, none⟩ (.int .i64 b.j)).setCell ⟨W.heap.size, 5, none⟩ (.int .i64 b.n)).setCell ⟨W.heap.size, 6, none⟩ (.int .u8 kk)).setCell ⟨W.heap.size, 7, none⟩ (.int .i64 nn)).setCell ⟨W.heap.size, 8, none⟩ (.string ss)).setCell ⟨W.heap.size, 9, none⟩ (.slice L l m)).setCell ⟨W.heap.size, 10, none⟩ (.slice O o r)).setCell ⟨W.heap.size, 11, none⟩ (.string b.s)) from (((((((((((((Keep.refl (· = W.heap.size) w2).set1 0 _).set1 1 _).set1 2 _).set1 3 _).set1 4 _).set1 5 _).set1 6 _).set1 7 _).set1 8 _).set1 9 _).set1 10 _).set1 11 _))
  clear hC hK hf hr2
  change wpList _ _ _ (_ :: []) _ _
  (try simp only [Act.put, List.setIfInBounds_toArray, List.set_cons_zero, List.set_cons_succ])
  go_wp2_with fail
  refine NoPanic.normal ?_
  go_wp2
  refine bodyPost_ret (v := .agg #[(.int .u8 (b.kind.toNat : Int)), (.slice Ap b.path.length cp), (.string b.key), (.int .i64 b.i), (.int .i64 b.j), (.int .i64 b.n), (.int .u8 kk), (.int .i64 nn), (.string ss), (.slice L l m), (.slice O o r), (.string b.s)]) (by simp [results, Tryd.results10, go_sem, z0, z1, z2, z3, z4, z5, z6, z7, z8, z9, z10, z11]) rfl ?_
  obtain ⟨x, hx, ⟨lv, ov, e, r1, r2⟩⟩ := HF.out
  simp at e
  obtain ⟨rfl, rfl, rfl, rfl, rfl⟩ := e
  have hxs := HR.out.lt
  have hws := HSZ.out
  refine ⟨x, _, _, _, _, _, _, _, _, _, rfl, hx, ⟨_, _, _, rfl, ((HP.out.ext ESt.ok HC.out).keep ESt.ok HKZ.out fun k h e => by omega).more ESt.ok fun _ _ _ => trivial, (r1.keep EVal.ok HKZ.out fun k h e => by omega).more EVal.ok fun _ _ _ => trivial, (r2.keep EField.ok HKZ.out fun k h e => by omega).more EField.ok fun _ _ _ => trivial⟩, (HE.out.ext HC.out).trans HKZ.out fun k hk e => by omega⟩
end Go.Proofs.YtioplgfopillnaaDoor
