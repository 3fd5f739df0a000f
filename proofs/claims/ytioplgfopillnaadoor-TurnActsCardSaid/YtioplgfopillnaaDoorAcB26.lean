/- TurnN, Open, OpenEl, OpenX, OpTok, TurnO, TurnS, SeqB: laid together. -/
import Derived.Test.YtioplgfopillnaaDoorAcB23
import Derived.Test.YtioplgfopillnaaDoorAcB25
import Derived.Test.YtioplgfopillnaaDoorAcB1
import Derived.OpenShut
import Derived.ProofKit
import Derived.ChangeOld
import Derived.Deep.Slices
import Derived.Deep.Fields
import Derived.ChangeArms
import Derived.SizedLaws
import Derived.Test.YtioplgfopillnaaDoorAcB2
import Derived.Test.YtioplgfopillnaaDoorAcB19
import Derived.Test.YtioplgfopillnaaDoorAcB22
import Derived.Test.YtioplgfopillnaaDoorAcB18
import Derived.Deep.QuietTactic
import Derived.BigQuiet
import Derived.IntWalk
/- The walk of TurnApart. -/
set_option linter.unusedSimpArgs false
set_option linter.unusedVariables false
namespace Go.Proofs.YtioplgfopillnaaDoor
open Go.RowKit
set_option linter.unusedVariables false

theorem One6Is.form {v : V} {w w' : World} {e : Ending} (h : One6Is v w e w') : ∃ (k1 : Int) (A1 : Option Addr) (m1 c1 : Nat) (key1 : ByteArray) (i1 j1 n1 vk1 vn1 : Int) (vs1 : ByteArray) (B1 : Option Addr) (p1 q1 : Nat) (D1 : Option Addr) (r1 s1 : Nat) (t1 : ByteArray) (o : Int), e = .returned (.tuple #[.agg #[.int .u8 k1, .slice A1 m1 c1, .string key1, .int .i64 i1, .int .i64 j1, .int .i64 n1, .int .u8 vk1, .int .i64 vn1, .string vs1, .slice B1 p1 q1, .slice D1 r1 s1, .string t1], .int .i64 o]) ∧ (o = 0 ∨ (o = 1 ∧ ∃ c, CAt w' (fun q => w.heap.size ≤ q) (.agg #[.int .u8 k1, .slice A1 m1 c1, .string key1, .int .i64 i1, .int .i64 j1, .int .i64 n1, .int .u8 vk1, .int .i64 vn1, .string vs1, .slice B1 p1 q1, .slice D1 r1 s1, .string t1]) c ∧ OneOk v c)) ∧ Ext w w' := by
  obtain ⟨u, n, rfl, ⟨rfl, k1, A1, m1, c1, key1, i1, j1, n1, vk1, vn1, vs1, B1, p1, q1, D1, r1, s1, t1, rfl⟩ | ⟨rfl, c, hc, ho⟩, hE⟩ := h
  · exact ⟨_, _, _, _, _, _, _, _, _, _, _, _, _, _, _, _, _, _, 0, rfl, .inl rfl, hE⟩
  · obtain ⟨pv, lv, ov, rfl, h1, h2, h3⟩ := hc
    obtain ⟨A, cp, rfl, _⟩ := h1.shape
    obtain ⟨B, cl, rfl, _⟩ := h2.shape
    obtain ⟨D, co, rfl, _⟩ := h3.shape
    exact ⟨_, _, _, _, _, _, _, _, _, _, _, _, _, _, _, _, _, _, 1, rfl, .inr ⟨rfl, c, ⟨_, _, _, rfl, h1, h2, h3⟩, ho⟩, hE⟩
theorem OneOk.small {v : V} {c : Cp} (h : OneOk v c) : c.path.length ≤ 1000 ∧ c.v.size ≤ 1000000 := by
  obtain ⟨x, _, h5, _, h⟩ := h
  refine ⟨by omega, ?_⟩
  rcases h with ⟨_, n, _, h⟩ | ⟨_, k, i, n, s, _, h⟩ | ⟨_, k, i, j, y, _, _, h', h⟩ | ⟨_, k, key, y, _, _, h', h⟩
  · rw [h]; show ZV.size ≤ 1000000; have := ZV.size_ok; omega
  · rw [h]; show ZV.size ≤ 1000000; have := ZV.size_ok; omega
  · rw [h]; show y.size ≤ 1000000; omega
  · rw [h]; show y.size ≤ 1000000; omega
abbrev Wf (a : Ac) : Prop := (Lit.int .i64 a.i).wf = true ∧ (Lit.int .i64 a.j).wf = true ∧ (Lit.int .i64 a.n).wf = true
end Go.Proofs.YtioplgfopillnaaDoor

/- From the readings of arguments to the words of the walks. -/
set_option linter.unusedSimpArgs false
set_option linter.unusedVariables false
namespace Go.Proofs.YtioplgfopillnaaDoor
open Go.ChangeShapes Go.WideShapes Go.ChangeAt Go.RowKit

section
variable {H : Type} {enc : TypeId × Value → H} {P : Program} {W : World}

theorem add_cell {x : Addr} {i : Nat} (hx : x.spot = none) : x.add i = ⟨x.block, x.off + i, none⟩ := by
  cases x; simp at hx; subst hx
  unfold Addr.add
  split <;> simp_all

theorem spot_of_cell {x : Addr} {v : Value} (h : W.cell? x = some v) : x.spot = none := by
  unfold World.cell? at h
  split at h
  · split at h
    · cases h
    · rename_i hs; simpa using hs
  · cases h

theorem u8_of_wf {n : Int} (h : (Lit.int .u8 n).wf = true) : ∃ c : UInt8, n = (c.toNat : Int) := by
  have h1 : 0 ≤ n ∧ n ≤ 255 := by
    simp [Lit.wf, IntKind.has, IntKind.min, IntKind.max, IntKind.signed, IntKind.bits] at h
    omega
  refine ⟨UInt8.ofNat n.toNat, ?_⟩
  rw [UInt8.toNat_ofNat_of_lt' (by simp [UInt8.size]; omega)]
  omega

end
end Go.Proofs.YtioplgfopillnaaDoor

/- From the readings of arguments to slices of structs. -/
set_option linter.unusedSimpArgs false
set_option linter.unusedVariables false
namespace Go.Proofs.YtioplgfopillnaaDoor
open Go.ChangeShapes Go.WideShapes Go.ChangeAt Go.RowKit Go.Deep

/-- A row read one element after the other. -/
theorem cells_build {α : Type} {E : El α} (hE : E.Ok) {w : World} {S : BS} {b off : Nat} : ∀ (n : Nat), (∀ i, i < n → ∃ (x : α) (c0 : List Value), E.rd w S c0 x ∧ ∀ j u, c0[j]? = some u → w.cell? ⟨b, off + (i * E.size + j), none⟩ = some u) →
    ∃ (l : List α) (cs : List Value), l.length = n ∧ Cells E w S cs l ∧ ∀ k u, cs[k]? = some u → w.cell? ⟨b, off + k, none⟩ = some u
  | 0, _ => ⟨[], [], rfl, rfl, fun k u h => by simp at h⟩
  | n + 1, h => by
    obtain ⟨l, cs, hl, hc, hk⟩ := cells_build hE n fun i hi => h i (by omega)
    obtain ⟨x, c0, hx, h0⟩ := h n (by omega)
    refine ⟨l ++ [x], cs ++ c0, by simp [hl], hc.append (Cells.single hx), fun k u hu => ?_⟩
    have hcl := hc.len hE
    rcases Nat.lt_or_ge k cs.length with h1 | h1
    · rw [List.getElem?_append_left h1] at hu; exact hk k u hu
    · rw [List.getElem?_append_right h1] at hu
      have := h0 _ u hu
      rwa [show n * E.size + (k - cs.length) = k from by rw [hcl, hl] at h1 ⊢; omega] at this

section
variable {H : Type} {enc : TypeId × Value → H} {P : Program} {W : World}
end
end Go.Proofs.YtioplgfopillnaaDoor

/- Arguments of any shape, opened: kinds of elements, built of one another; what comes in is no longer than a process's memory. No program. -/
set_option linter.unusedSimpArgs false
set_option linter.unusedVariables false
namespace Go.Proofs.YtioplgfopillnaaDoor
open Go.ChangeShapes Go.WideShapes Go.ChangeAt Go.RowKit Go.Deep

/-! ### Kinds of elements -/
def EInt (k : IntKind) : El Int := { size := 1, rd := fun _ _ cs x => cs = [.int k x] }
theorem EInt.ok (k : IntKind) : (EInt k).Ok where
  pos := by show 0 < 1; decide
  len := fun h => by have h := h; subst h; rfl
  one := fun h u hu => by subst h; simp at hu; subst hu; rfl
  keep := fun h _ _ => h
  more := fun h _ => h
def EBool : El Bool := { size := 1, rd := fun _ _ cs x => cs = [.bool x] }
theorem EBool.ok : EBool.Ok where
  pos := by decide
  len := fun h => by subst h; rfl
  one := fun h u hu => by subst h; simp at hu; subst hu; rfl
  keep := fun h _ _ => h
  more := fun h _ => h
def EStr : El ByteArray := { size := 1, rd := fun _ _ cs x => cs = [.string x] }
theorem EStr.ok : EStr.Ok where
  pos := by decide
  len := fun h => by subst h; rfl
  one := fun h u hu => by subst h; simp at hu; subst hu; rfl
  keep := fun h _ _ => h
  more := fun h _ => h
def EPair {α β : Type} (E : El α) (F : El β) : El (α × β) := { size := E.size + F.size, rd := fun w S cs x => ∃ c1 c2, cs = c1 ++ c2 ∧ E.rd w S c1 x.1 ∧ F.rd w S c2 x.2 }
theorem EPair.ok {α β : Type} {E : El α} {F : El β} (hE : E.Ok) (hF : F.Ok) : (EPair E F).Ok where
  pos := by show 0 < E.size + F.size; have := hE.pos; omega
  len := fun ⟨c1, c2, h, h1, h2⟩ => by subst h; rw [List.length_append, hE.len h1, hF.len h2]; rfl
  one := fun ⟨c1, c2, h, h1, h2⟩ u hu => by
    subst h
    rcases List.mem_append.1 hu with hu | hu
    · exact hE.one h1 u hu
    · exact hF.one h2 u hu
  keep := fun ⟨c1, c2, h, h1, h2⟩ hk hF' => ⟨c1, c2, h, hE.keep h1 hk hF', hF.keep h2 hk hF'⟩
  more := fun ⟨c1, c2, h, h1, h2⟩ hS => ⟨c1, c2, h, hE.more h1 hS, hF.more h2 hS⟩

section
variable {H : Type} {enc : TypeId × Value → H} {P : Program} {W : World} {spare : Nat → Bool} {held : Bool}

/-- No part of it takes more bytes than a process has. -/
def Fits (P : Program) (t : TypeId) (d : DataW H) : Prop := ∀ n ∈ d.weights P t, n ≤ reachBytes
theorem weightsAll_mem {e : TypeId} {n : Nat} : ∀ {ds : List (DataW H)} {d : DataW H}, d ∈ ds → n ∈ d.weights P e → n ∈ DataW.weightsAll P e ds
  | d :: r, x, hx, hn => by
    rw [DataW.weightsAll]
    rcases List.mem_cons.1 hx with rfl | hx
    · exact List.mem_append_left _ hn
    · exact List.mem_append_right _ (weightsAll_mem hx hn)
theorem weightsEach_mem {n : Nat} : ∀ {ts : List TypeId} {ds : List (DataW H)} {i : Nat} {t : TypeId} {d : DataW H}, ts[i]? = some t → ds[i]? = some d → n ∈ d.weights P t → n ∈ DataW.weightsEach P ts ds
  | t :: ts, d :: ds, 0, t', d', ht, hd, hn => by
    simp at ht hd; subst ht hd
    rw [DataW.weightsEach]; exact List.mem_append_left _ hn
  | t :: ts, d :: ds, i + 1, t', d', ht, hd, hn => by
    rw [DataW.weightsEach]; exact List.mem_append_right _ (weightsEach_mem (by simpa using ht) (by simpa using hd) hn)
/-- .. of one of the arguments. -/
theorem Fits.of_all {ts : List TypeId} {ds : List (DataW H)} (h : (DataW.weightsEach P ts ds).all (· ≤ reachBytes) = true) {i : Nat} {t : TypeId} {d : DataW H} (ht : ts[i]? = some t) (hd : ds[i]? = some d) : Fits P t d := fun n hn => by
  have := List.all_eq_true.1 h n (weightsEach_mem ht hd hn)
  simpa using this

/-- Cells of type t read as a datum of kind E, of which Q is known. -/
structure Opens {α : Type} (E : El α) (enc : TypeId × Value → H) (P : Program) (W : World) (spare : Nat → Bool) (held : Bool) (t : TypeId) (Q : α → Prop) : Prop where
  size : P.cellsOf t = E.size
  op : ∀ (fuel : Nat) (cs : List Value) (y : DataW H × List MemPlace), DataW.trod enc P W 0 spare held fuel t cs = some y → Fits P t y.1 → ∃ x, E.rd W (fun k => k < W.heap.size) cs x ∧ Q x

theorem Opens.map {α β : Type} {E : El α} {F : El β} {t : TypeId} {Q : α → Prop} {R : β → Prop} (h : Opens E enc P W spare held t Q) (hs : F.size = E.size) (f : α → β) (hrd : ∀ w S cs x, E.rd w S cs x → F.rd w S cs (f x)) (hQ : ∀ x, Q x → R (f x)) : Opens F enc P W spare held t R :=
  ⟨h.size.trans hs.symm, fun fuel cs y hy hf => by obtain ⟨x, h1, h2⟩ := h.op fuel cs y hy hf; exact ⟨f x, hrd _ _ _ _ h1, hQ _ h2⟩⟩
theorem opens_int {t : TypeId} {k : IntKind} (ht : P.underlying t = some (.int k)) (hc : P.cellsOf t = 1) : Opens (EInt k) enc P W spare held t (fun x => (Lit.int k x).wf = true) :=
  ⟨hc, fun fuel cs y hy _ => by obtain ⟨n, h1, _, h3⟩ := DataW.trod_int ht hy; exact ⟨n, h1, h3⟩⟩
theorem opens_u8 {t : TypeId} (ht : P.underlying t = some (.int .u8)) (hc : P.cellsOf t = 1) : Opens EU8 enc P W spare held t (fun _ => True) :=
  ⟨hc, fun fuel cs y hy _ => by obtain ⟨n, h1, _, h3⟩ := DataW.trod_int ht hy; obtain ⟨c, rfl⟩ := u8_of_wf h3; exact ⟨c, h1, trivial⟩⟩
theorem opens_str {t : TypeId} (ht : P.underlying t = some .string) (hc : P.cellsOf t = 1) : Opens EStr enc P W spare held t (fun s => s.size ≤ reachBytes) :=
  ⟨hc, fun fuel cs y hy hf => by
    obtain ⟨s, h1, h2, _⟩ := DataW.trod_string ht hy
    subst h2
    exact ⟨s, h1, hf s.size (by simp [DataW.weights])⟩⟩
/-- A slice's value, its elements in sight. -/
theorem sl_opens {α : Type} {E : El α} (hE : E.Ok) {t e : TypeId} {Q : α → Prop} (ht : P.underlying t = some (.slice e)) (h : Opens E enc P W spare held e Q) {fuel : Nat} {v : Value} {y : DataW H × List MemPlace}
    (hy : DataW.trod enc P W 0 spare held fuel t [v] = some y) (hf : Fits P t y.1) : ∃ l : List α, Sl E W (fun k => k < W.heap.size) v l ∧ l.length * P.bytesOf e ≤ reachBytes ∧ ∀ x ∈ l, Q x := by
  rcases open_slice ht hy with ⟨h0, _⟩ | ⟨x, len, cap, m, n, D, Pl, hcs, _, hl, hm, hmm, hd, hi⟩
  · obtain rfl : v = .slice none 0 0 := by simpa using h0
    exact ⟨[], Sl.nil _ _, by simp, by simp⟩
  · obtain rfl : v = .slice (some x) len cap := by simpa using hcs
    subst hd
    have hlen : len ≤ m := by rw [hmm]; split <;> omega
    have hpos := hE.pos
    have hC := h.size
    have hw : ∀ n', n' ∈ DataW.weights P t (DataW.slice ((List.range len).map D) ((List.range (m - len)).map fun j => D (len + j))) ↔ n' ∈ ((((List.range len).map D).length * P.bytesOf e + ((List.range (m - len)).map fun j => D (len + j)).length * P.bytesOf e) :: (DataW.weightsAll P e ((List.range len).map D) ++ DataW.weightsAll P e ((List.range (m - len)).map fun j => D (len + j)))) := fun n' => by
      rw [DataW.weights, ht]; simp [Nat.add_mul]
    have key : ∀ i, i < len → ∃ (z : α) (c0 : List Value), (E.rd W (fun k => k < W.heap.size) c0 z ∧ Q z) ∧ ∀ j, j < E.size → W.cell? (x.add (i * E.size + j)) = c0[j]? := fun i hil => by
      obtain ⟨cs', hc, ht'⟩ := hi i (by omega)
      rw [hC] at hc
      obtain ⟨_, hcl, hat⟩ := World.cells?_some hc
      obtain ⟨z, hz, hq⟩ := h.op n cs' _ ht' (fun n' hn' => hf n' ((hw n').2 (List.mem_cons_of_mem _ (List.mem_append_left _ (weightsAll_mem (List.mem_map.2 ⟨i, List.mem_range.2 hil, rfl⟩) hn')))))
      exact ⟨z, cs', ⟨hz, hq⟩, fun j hj => by rw [← add_add]; exact hat j hj⟩
    have hbytes : len * P.bytesOf e ≤ reachBytes := by
      have := hf _ ((hw _).2 List.mem_cons_self)
      simp at this
      exact Nat.le_trans (Nat.le_add_right _ _) this
    rcases Nat.eq_zero_or_pos len with h0 | h0
    · subst h0
      exact ⟨[], ⟨[], ⟨by simp, some x, cap, rfl, by simp, hm, fun h => by simp at h⟩, rfl⟩, by simp, by simp⟩
    · obtain ⟨y0, c0, ⟨hr0, _⟩, hc0⟩ := key 0 h0
      have hl0 := hE.len hr0
      have hcell0 : W.cell? (x.add (0 * E.size + 0)) = some (c0[0]'(by omega)) := by rw [hc0 0 hpos]; exact List.getElem?_eq_getElem _
      have hsp := spot_of_cell (by simpa [Addr.add] using hcell0)
      obtain ⟨b, off, sp⟩ := x
      simp at hsp
      subst hsp
      have hadd : ∀ k, (⟨b, off, none⟩ : Addr).add k = ⟨b, off + k, none⟩ := fun k => add_cell rfl
      have hlt := lt_of_cell (by rw [hadd] at hcell0; exact hcell0)
      let E' : El { z : α // Q z } := { size := E.size, rd := fun w S cs z => E.rd w S cs z.1 }
      have hE' : E'.Ok := ⟨hE.pos, fun h => hE.len h, fun h => hE.one h, fun h => hE.keep h, fun h => hE.more h⟩
      obtain ⟨l, cs, hll, hcc, hcell⟩ := cells_build (E := E') (w := W) (S := fun k => k < W.heap.size) (b := b) (off := off) hE' len fun i hi => by
        obtain ⟨z, c1, ⟨hr, hq⟩, hc⟩ := key i hi
        refine ⟨⟨z, hq⟩, c1, hr, fun j u hu => ?_⟩
        have hj : j < E.size := by have := hE.len hr; have := (List.getElem?_eq_some_iff.1 hu).1; omega
        have := hc j hj
        rw [hadd, hu] at this
        exact this
      have hcc2 : ∀ {cs : List Value} {l : List { z : α // Q z }}, Cells E' W (fun k => k < W.heap.size) cs l → Cells E W (fun k => k < W.heap.size) cs (l.map (·.1)) := by
        intro cs l
        induction l generalizing cs with
        | nil => exact fun h => h
        | cons z l ih => rintro ⟨c0, c1, e, h0, h1⟩; exact ⟨c0, c1, e, h0, ih h1⟩
      refine ⟨l.map (·.1), ⟨cs, ?_, hcc2 hcc⟩, by rw [List.length_map, hll]; exact hbytes, fun x hx => by obtain ⟨z, _, rfl⟩ := List.mem_map.1 hx; exact z.2⟩
      rw [List.length_map]
      exact ⟨hcc.len hE', some ⟨b, off, none⟩, cap, by rw [hll], by omega, hm, fun _ => ⟨b, off, rfl, hlt, hlt, fun j u hu => hcell j u hu⟩⟩
theorem opens_slice {α : Type} {E : El α} (hE : E.Ok) {t e : TypeId} {Q : α → Prop} (ht : P.underlying t = some (.slice e)) (hc : P.cellsOf t = 1) (h : Opens E enc P W spare held e Q) : Opens (ESl E) enc P W spare held t (fun l => l.length * P.bytesOf e ≤ reachBytes ∧ ∀ x ∈ l, Q x) :=
  ⟨hc, fun fuel cs y hy hf => by
    have hv : ∃ v, cs = [v] := by
      rcases open_slice ht hy with ⟨h0, _⟩ | ⟨x, len, cap, m, n, D, Pl, hcs, _⟩
      · exact ⟨_, h0⟩
      · exact ⟨_, hcs⟩
    obtain ⟨v, rfl⟩ := hv
    obtain ⟨l, h1, h2⟩ := sl_opens hE ht h hy hf
    exact ⟨l, ⟨v, rfl, h1⟩, h2⟩⟩

/-- The fields from some place on. -/
def FOp {α : Type} (E : El α) (enc : TypeId × Value → H) (P : Program) (W : World) (spare : Nat → Bool) (held : Bool) (fs : List Field) (off : Nat) (Q : α → Prop) : Prop :=
  ∀ (n : Nat) (cs : List Value) (ys : List (DataW H × List MemPlace)), cs.length = off + E.size → ys.length = fs.length →
    (∀ (i : Nat) (f : Field), fs[i]? = some f → DataW.trod enc P W 0 spare held n f.type ((cs.drop f.offset).take (P.cellsOf f.type)) = ys[i]?) → (∀ (i : Nat) (f : Field) y, fs[i]? = some f → ys[i]? = some y → Fits P f.type y.1) →
    ∃ x, E.rd W (fun k => k < W.heap.size) (cs.drop off) x ∧ Q x
theorem fop_one {α : Type} {E : El α} {f : Field} {off : Nat} {Q : α → Prop} (ho : f.offset = off) (h : Opens E enc P W spare held f.type Q) : FOp E enc P W spare held [f] off Q := by
  intro n cs ys hl hy ht hf
  obtain ⟨y, rfl⟩ : ∃ y, ys = [y] := by
    match ys, hy with
    | [y], _ => exact ⟨y, rfl⟩
  have := ht 0 f rfl
  rw [ho, h.size, List.take_of_length_le (by simp; omega)] at this
  exact h.op n _ y this (hf 0 f y rfl rfl)
theorem fop_cons {α β : Type} {E : El α} {F : El β} {f : Field} {fs : List Field} {off : Nat} {Q : α → Prop} {R : β → Prop} (ho : f.offset = off) (h : Opens E enc P W spare held f.type Q) (hr : FOp F enc P W spare held fs (off + E.size) R) :
    FOp (EPair E F) enc P W spare held (f :: fs) off (fun x => Q x.1 ∧ R x.2) := by
  intro n cs ys hl hy ht hf
  obtain ⟨y, zs, rfl⟩ : ∃ y zs, ys = y :: zs := by
    match ys, hy with
    | y :: zs, _ => exact ⟨y, zs, rfl⟩
  have hl' : cs.length = off + (E.size + F.size) := hl
  have h0 := ht 0 f rfl
  rw [ho, h.size] at h0
  obtain ⟨x1, r1, q1⟩ := h.op n _ y h0 (hf 0 f y rfl rfl)
  obtain ⟨x2, r2, q2⟩ := hr n cs zs (by omega) (by simpa using hy) (fun i g hg => by have := ht (i + 1) g (by simpa using hg); simpa using this) (fun i g z hg hz => hf (i + 1) g z (by simpa using hg) (by simpa using hz))
  refine ⟨(x1, x2), ⟨(cs.drop off).take E.size, cs.drop (off + E.size), ?_, r1, r2⟩, q1, q2⟩
  rw [← List.drop_drop, List.take_append_drop]
theorem opens_struct {α : Type} {E : El α} {t : TypeId} {fs : Array Field} {Q : α → Prop} (ht : P.underlying t = some (.struct fs)) (hc : P.cellsOf t = E.size) (h : FOp E enc P W spare held fs.toList 0 Q) : Opens E enc P W spare held t Q :=
  ⟨hc, fun fuel cs y hy hf => by
    obtain ⟨ys, n, _, hyd, hl, hyl, hfl⟩ := DataW.trod_struct ht hy
    subst hyd
    have hw : ∀ n', n' ∈ DataW.weights P t (DataW.agg (ys.map (·.1))) ↔ n' ∈ DataW.weightsEach P (fs.toList.map (·.type)) (ys.map (·.1)) := fun n' => by rw [DataW.weights, ht]
    have := h n cs ys (by rw [hl, hc]; omega) (by simpa using hyl) (fun i f hi => hfl i f (by simpa using hi)) (fun i f z hi hz n' hn' => hf n' ((hw n').2 (weightsEach_mem (i := i) (by simp [hi]) (by simp [hz]) hn')))
    simpa using this⟩
end
end Go.Proofs.YtioplgfopillnaaDoor

/- A piece, opened. -/
set_option linter.unusedSimpArgs false
set_option linter.unusedVariables false
namespace Go.Proofs.YtioplgfopillnaaDoor
open Go.ChangeShapes Go.WideShapes Go.ChangeAt Go.RowKit Go.Deep
theorem op_tok {H : Type} {enc : TypeId × Value → H} {W : World} {spare : Nat → Bool} {held : Bool} : Opens ETok enc Tryd.prog W spare held 57 (fun _ => True) := by
  refine (opens_struct Tryd.underlying57 (by kernel_rfl) (fop_cons rfl (opens_u8 Tryd.underlying5 (by kernel_rfl)) (fop_cons rfl (opens_int Tryd.underlying2 (by kernel_rfl)) (fop_cons rfl (opens_str Tryd.underlying9 (by kernel_rfl))
    (fop_one rfl (opens_u8 Tryd.underlying5 (by kernel_rfl))))))).map rfl (fun x => ⟨x.1, x.2.1, x.2.2.1, x.2.2.2⟩) ?_ ?_
  · rintro w S cs x ⟨c1, _, rfl, h1, c2, _, rfl, h2, c3, c4, rfl, h3, h4⟩
    show _ = _
    rw [show c1 = _ from h1, show c2 = _ from h2, show c3 = _ from h3, show c4 = _ from h4]; rfl
  · rintro x _
    trivial
end Go.Proofs.YtioplgfopillnaaDoor

/- Components at two paths leave one another: the walk made ready for the lifting; an act, opened. -/
set_option linter.unusedSimpArgs false
set_option linter.unusedVariables false
namespace Go.Proofs.YtioplgfopillnaaDoor
open Go.ChangeShapes Go.WideShapes Go.ChangeAt Go.RowKit Go.Deep
theorem op_act {H : Type} {enc : TypeId × Value → H} {W : World} {spare : Nat → Bool} {held : Bool} : Opens EAc enc Tryd.prog W spare held 43 Wf := by
  refine (opens_struct Tryd.underlying43 (by kernel_rfl) (fop_cons rfl (opens_slice EU8.ok Tryd.underlying41 (by kernel_rfl) (opens_u8 Tryd.underlying5 (by kernel_rfl))) (fop_cons rfl (opens_u8 Tryd.underlying5 (by kernel_rfl))
    (fop_cons rfl (opens_int Tryd.underlying3 (by kernel_rfl)) (fop_cons rfl (opens_int Tryd.underlying3 (by kernel_rfl)) (fop_cons rfl (opens_int Tryd.underlying2 (by kernel_rfl)) (fop_cons rfl (opens_str Tryd.underlying9 (by kernel_rfl))
    (fop_one rfl (opens_slice ETok.ok Tryd.underlying23 (by kernel_rfl) op_tok))))))))).map rfl (fun x => ⟨x.1, x.2.1, x.2.2.1, x.2.2.2.1, x.2.2.2.2.1, x.2.2.2.2.2.1, x.2.2.2.2.2.2⟩) ?_ ?_
  · rintro w S cs x ⟨c1, _, rfl, ⟨pv, h1, h1'⟩, c2, _, rfl, h2, c3, _, rfl, h3, c4, _, rfl, h4, c5, _, rfl, h5, c6, c7, rfl, h6, ⟨vv, h7, h7'⟩⟩
    exact ⟨pv, vv, by rw [h1, show c2 = _ from h2, show c3 = _ from h3, show c4 = _ from h4, show c5 = _ from h5, show c6 = _ from h6, h7]; rfl, h1', h7'⟩
  · rintro x ⟨_, _, h3, h4, h5, _, _⟩
    exact ⟨h3, h4, h5⟩
end Go.Proofs.YtioplgfopillnaaDoor

/- The reference's Copy of a component: new memory, the path its own. -/
set_option linter.unusedSimpArgs false
set_option linter.unusedVariables false
namespace Go.Proofs.YtioplgfopillnaaDoor
open Go.RowKit
set_option linter.unusedVariables false

set_option maxRecDepth 20000 in
set_option maxHeartbeats 3200000 in
theorem rcopy6 (w : World) (S : BS) (u : Value) (c : Cp) (h : CAt w S u c) (hp : c.path.length ≤ 1000) (hv : c.v.size ≤ 1000000) :
    Calls Tryd.prog 11 #[u] w fun e w' => CopyO w c e w' := by
  obtain ⟨pv, lv, ov, rfl, h1, h2, h3⟩ := h.cut
  obtain ⟨Ap, cp, rfl, hpl, hpm⟩ := h1.shape
  obtain ⟨Al, cl, rfl, hll, hlm⟩ := h2.shape
  obtain ⟨Ao, co, rfl, hol, hom⟩ := h3.shape
  obtain ⟨W, hW⟩ : ∃ W, (w.alloc (.cells (cpCells c (.slice Ap c.path.length cp) (.slice Al c.v.l.length cl) (.slice Ao c.v.o.length co)) TCMP)) = W := ⟨_, rfl⟩
  have hE : Ext w W := by rw [← hW]; exact (Keep.refl _ _).alloc _
  have hb : Blk W w.heap.size TCMP (cpCells c (.slice Ap c.path.length cp) (.slice Al c.v.l.length cl) (.slice Ao c.v.o.length co)) := by rw [← hW]; exact Blk.new _ _ _
  obtain ⟨W2, hW2⟩ : ∃ W2, W.alloc (.cells ZCMP TCMP) = W2 := ⟨_, rfl⟩
  have hE2 : Ext W W2 := by rw [← hW2]; exact (Keep.refl _ _).alloc _
  have hr : Blk W2 W.heap.size TCMP ZCMP := by rw [← hW2]; exact Blk.new _ _ _
  have hb2 := hb.keep hE2 id
  have p1 := hb2.cell 1
  simp at p1
  have hsz : W.heap.size = w.heap.size + 1 := by rw [← hW]; simp
  have hsz2 : W2.heap.size = W.heap.size + 1 := by rw [← hW2]; simp
  have H1 := hid ((h1.ext ESt.ok hE).ext ESt.ok hE2)
  have HV := hid (show VAt W2 (fun k => S k ∧ k < w.heap.size) (.agg #[U8 c.v.kind, .int .i64 c.v.n, .string c.v.s, .slice Al c.v.l.length cl, .slice Ao c.v.o.length co]) c.v from ⟨_, _, rfl, (h2.ext EVal.ok hE).ext EVal.ok hE2, (h3.ext EField.ok hE).ext EField.ok hE2⟩)
  have HB := hid hb2
  have HR := hid hr
  have HE := hid (hE.ext hE2)
  have HSZ := hid hsz
  have HSZ2 := hid hsz2
  rw [hsz] at hr
  clear h1 h2 h3 hb hE h hE2 hb2 hr hsz hsz2
  go_enter Tryd.func11, Tryd.ntmps11
  go_wp2_with (at_builtin; refine wpList_own_append (v := .slice none 0 0) (y := .slice Ap c.path.length cp) (xs := []) (ys := c.path) (base := W2.heap.size) (S := fun _ => False) _ rfl (.tmp 4) (.tmp 6) ESt.ok ty_st rfl rfl rfl (Own.nil _ _ _ _) H1.out ?c1 ?c2 ?c3 ?c4 ?_)
  case c1 => intro g hg; cases hg
  case c2 => simp; omega
  case c3 => simp [maxLen]; omega
  case c4 => exact Nat.le_refl _
  intro v4 w1 hown hk1 hb1
  have hown : Own ESt w1 W2.heap.size TSTEP (fun _ => False) v4 c.path := own_stF hown
  obtain ⟨A2, c2, rfl, hlc2, hcm2⟩ := hown.shape
  have hE1 : Ext W2 w1 := hk1.mono fun k _ h => by cases h
  have hb := HB.out.keep hE1 id
  have hr := HR.out.keep hE1 id
  have hbz : w.heap.size < W.heap.size := by have := HSZ.out; omega
  have f1 := hb.frozen 1
  have y1 := hb.cell 1
  simp at y1
  obtain ⟨X1, hX1⟩ : ∃ X1, w1.setCell ⟨w.heap.size, 1, none⟩ (.slice A2 c.path.length c2) = X1 := ⟨_, rfl⟩
  have hk1 : Keep (· = w.heap.size) w1 X1 := by rw [← hX1]; exact (Keep.refl (· = w.heap.size) w1).set1 1 _
  have hx1 : Blk X1 w.heap.size TCMP (cpCells c (.slice A2 c.path.length c2) (.slice Al c.v.l.length cl) (.slice Ao c.v.o.length co)) := by
    rw [← hX1]
    exact hb.set_ 1 (.slice A2 c.path.length c2)
  have hr1 : Blk X1 W.heap.size TCMP ZCMP := hr.keep hk1 (by omega)
  have v0 := hx1.cell 6
  have v1 := hx1.cell 7
  have v2 := hx1.cell 8
  have v3 := hx1.cell 9
  have v4 := hx1.cell 10
  simp at v0 v1 v2 v3 v4
  have HX1 := hid hx1
  have HRX := hid hr1
  have HX := hid hX1
  have hEX : Ext w X1 := (HE.out.ext hE1).trans hk1 fun k hk e => by omega
  have HEX := hid hEX
  have hs1 := hE1.size
  have hs2 := HSZ2.out
  have HO1 := hid (hown.keep ESt.ok hk1 (fun _ h => h.elim) fun g e h => by have := (hown.lt e).1; omega)
  have HV1 := hid ((HV.out.ext hE1).keep hk1 fun k h e => by omega)
  clear hown hb1 hE1 hb hr hk1 hx1 hr1 hEX HV H1 hs1 hs2
  go_wp2_with fail
  refine (rcopy_any _ c.v (Nat.le_refl _) hv _ _ _ HV1.out).mono ?_
  intro e X2 hcp
  obtain ⟨A5, m5, B5, k5, rfl, hrows, hE3⟩ := hcp.rows
  have HRW := hid hrows
  have HE3 := hid hE3
  have hb := HX1.out.keep hE3 id
  have hr := HRX.out.keep hE3 id
  have f6 := hb.frozen 6
  have f7 := hb.frozen 7
  have f8 := hb.frozen 8
  have f9 := hb.frozen 9
  have f10 := hb.frozen 10
  have y6 := hb.cell 6
  have y7 := hb.cell 7
  have y8 := hb.cell 8
  have y9 := hb.cell 9
  have y10 := hb.cell 10
  simp at y6 y7 y8 y9 y10
  obtain ⟨X3, hX3⟩ : ∃ X3, (((((X2.setCell ⟨w.heap.size, 6, none⟩ (.int .u8 (c.v.kind.toNat : Int))).setCell ⟨w.heap.size, 7, none⟩ (.int .i64 c.v.n)).setCell ⟨w.heap.size, 8, none⟩ (.string c.v.s)).setCell ⟨w.heap.size, 9, none⟩ (.slice A5 c.v.l.length m5)).setCell ⟨w.heap.size, 10, none⟩ (.slice B5 c.v.o.length k5)) = X3 := ⟨_, rfl⟩
  have hk3 : Keep (· = w.heap.size) X2 X3 := by
    rw [← hX3]
    exact (((((Keep.refl (· = w.heap.size) X2).set1 6 _).set1 7 _).set1 8 _).set1 9 _).set1 10 _
  have hx3 : Blk X3 w.heap.size TCMP (cpCells c (.slice A2 c.path.length c2) (.slice A5 c.v.l.length m5) (.slice B5 c.v.o.length k5)) := by
    rw [← hX3]
    exact ((((hb.set_ 6 (U8 c.v.kind)).set_ 7 (.int .i64 c.v.n)).set_ 8 (.string c.v.s)).set_ 9 (.slice A5 c.v.l.length m5)).set_ 10 (.slice B5 c.v.o.length k5)
  have hr3 : Blk X3 W.heap.size TCMP ZCMP := hr.keep hk3 (by omega)
  have HX3 := hid hx3
  have HR3 := hid hr3
  have HK3 := hid hk3
  have HXX := hid hX3
  clear hx3 hr3 hk3 hb hr hE3 hrows hcp v0 v1 v2 v3 v4 f1 y1 HX HV1 hX1

  have a0 := HX3.out.cell 0
  have a1 := HX3.out.cell 1
  have a2 := HX3.out.cell 2
  have a3 := HX3.out.cell 3
  have a4 := HX3.out.cell 4
  have a5 := HX3.out.cell 5
  have a6 := HX3.out.cell 6
  have a7 := HX3.out.cell 7
  have a8 := HX3.out.cell 8
  have a9 := HX3.out.cell 9
  have a10 := HX3.out.cell 10
  have a11 := HX3.out.cell 11
  simp at a0 a1 a2 a3 a4 a5 a6 a7 a8 a9 a10 a11
  have z0 := HR3.out.cell 0
  have g0 := HR3.out.frozen 0
  have z1 := HR3.out.cell 1
  have g1 := HR3.out.frozen 1
  have z2 := HR3.out.cell 2
  have g2 := HR3.out.frozen 2
  have z3 := HR3.out.cell 3
  have g3 := HR3.out.frozen 3
  have z4 := HR3.out.cell 4
  have g4 := HR3.out.frozen 4
  have z5 := HR3.out.cell 5
  have g5 := HR3.out.frozen 5
  have z6 := HR3.out.cell 6
  have g6 := HR3.out.frozen 6
  have z7 := HR3.out.cell 7
  have g7 := HR3.out.frozen 7
  have z8 := HR3.out.cell 8
  have g8 := HR3.out.frozen 8
  have z9 := HR3.out.cell 9
  have g9 := HR3.out.frozen 9
  have z10 := HR3.out.cell 10
  have g10 := HR3.out.frozen 10
  have z11 := HR3.out.cell 11
  have g11 := HR3.out.frozen 11
  simp at z0 z1 z2 z3 z4 z5 z6 z7 z8 z9 z10 z11
  have hne : w.heap.size ≠ W.heap.size := by omega
  have HK2 := hid (show Keep (· = W.heap.size) X3 ((((((((((((X3.setCell ⟨W.heap.size, 0, none⟩ (.int .u8 (c.kind.toNat : Int))).setCell ⟨W.heap.size, 1, none⟩ (.slice A2 c.path.length c2)).setCell ⟨W.heap.size, 2, none⟩ (.string c.key)).setCell ⟨W.heap.size, 3, none⟩ (.int .i64 c.i)).setCell ⟨W.heap.size, 4, none⟩ (.int .i64 c.j)).setCell ⟨W.heap.size, 5, none⟩ (.int .i64 c.n)).setCell ⟨W.heap.size, 6, none⟩ (.int .u8 (c.v.kind.toNat : Int))).setCell ⟨W.heap.size, 7, none⟩ (.int .i64 c.v.n)).setCell ⟨W.heap.size, 8, none⟩ (.string c.v.s)).setCell ⟨W.heap.size, 9, none⟩ (.slice A5 c.v.l.length m5)).setCell ⟨W.heap.size, 10, none⟩ (.slice B5 c.v.o.length k5)).setCell ⟨W.heap.size, 11, none⟩ (.string c.s)) from (((((((((((((Keep.refl (· = W.heap.size) X3).set1 0 _).set1 1 _).set1 2 _).set1 3 _).set1 4 _).set1 5 _).set1 6 _).set1 7 _).set1 8 _).set1 9 _).set1 10 _).set1 11 _))
  go_wp2
  refine bodyPost_ret (v := .agg (cpCells c (.slice A2 c.path.length c2) (.slice A5 c.v.l.length m5) (.slice B5 c.v.o.length k5))) (by simp [results, Tryd.results11, go_sem, z0, z1, z2, z3, z4, z5, z6, z7, z8, z9, z10, z11]) rfl ?_
  have hs2 := HSZ2.out
  have hrw := HRW.out
  have hl2 := (hrw.l.sl EVal.ok).more (S' := fun k => X1.heap.size ≤ k) EVal.ok fun k _ h => by
    rcases h with h | h
    · exact h.1
    · exact (hrw.l.lt h).1
  have ho2 := (hrw.o.sl EField.ok).more (S' := fun k => X1.heap.size ≤ k) EField.ok fun k _ h => by
    rcases h with h | h
    · exact h.1
    · exact (hrw.o.lt h).1
  have hxs := HEX.out.size
  have hx1 := HX1.out.lt
  have hr1 := HRX.out.lt
  have hx2 := HE3.out.size
  have hx3 := HK3.out.size
  refine ⟨_, _, _, rfl, (((HO1.out.ext ESt.ok HE3.out).keep ESt.ok HK3.out (fun _ h => h.elim) fun g e h => ?_).keep ESt.ok HK2.out (fun _ h => h.elim) fun g e h => ?_).less (by omega), ((hl2.keep EVal.ok HK3.out fun k h e => ?_).keep EVal.ok HK2.out fun k h e => ?_).more EVal.ok fun k _ h => ⟨by omega, fun e => ?_⟩, ((ho2.keep EField.ok HK3.out fun k h e => ?_).keep EField.ok HK2.out fun k h e => ?_).more EField.ok fun k _ h => ⟨by omega, fun e => ?_⟩, ((HEX.out.ext HE3.out).trans HK3.out fun k hk e => by omega).trans HK2.out fun k hk e => by omega⟩
  · have := (HO1.out.lt e).1; omega
  · have := (HO1.out.lt e).1; omega
  · omega
  · omega
  · have := (HO1.out.lt e).2; omega
  · omega
  · omega
  · have := (HO1.out.lt e).2; omega
end Go.Proofs.YtioplgfopillnaaDoor

/- seq: gap and target by contract. -/
set_option linter.unusedSimpArgs false
set_option linter.unusedVariables false
namespace Go.Proofs.YtioplgfopillnaaDoor
open Go.RowKit
set_option linter.unusedVariables false

theorem quiet_add_left {P : Program} {f : FuncId} {args : Array Value} {w : World} {a n : Nat} {v : Value}
    (h : Calls P f args (w.drewN (a + n)) fun e w' => e = .returned v ∧ w.drewN (a + n) = w') :
    Calls P f args (w.drewN (a + n)) fun e w'' => e = .returned v ∧ ∃ m, w'' = w.drewN (a + m) :=
  h.mono fun _ _ ⟨he, hm⟩ => ⟨he, n, hm.symm⟩
theorem quiet_left {P : Program} {f : FuncId} {args : Array Value} {w : World} {n : Nat} {v : Value}
    (h : Calls P f args (w.drewN n) fun e w' => e = .returned v ∧ w.drewN n = w') : Calls P f args (w.drewN n) fun e w'' => e = .returned v ∧ ∃ m, w'' = w.drewN m :=
  h.mono fun _ _ ⟨he, hm⟩ => ⟨he, n, hm.symm⟩
theorem ext_drewN (w : World) (n : Nat) : Ext w (w.drewN n) := by
  induction n with
  | zero => exact Keep.refl _ _
  | succ n ih => exact Keep.drew ih

theorem ext_drewN_of {a w : World} (n : Nat) (h : Ext a w) : Ext a (w.drewN n) := h.ext (ext_drewN w n)

def gapL (k : Int) (bk : UInt8) (bi bj : Int) (left : Bool) : Int :=
  if bk = 4 then k + up bi k (!left)
  else if bk = 5 then k - bl bi k
  else if bk = 7 then (k - bl bi k) + up bj (k - bl bi k) (!left)
  else k
def targetL (ai aj : Int) (bk : UInt8) (bi bj : Int) (left : Bool) : Int :=
  if bk = 4 then aj + up (bi - bl ai bi) aj (!left)
  else if bk = 5 then aj - bl (bi - bl ai bi) aj
  else if bk = 7 then (aj - bl (bi - bl ai bi) aj) + up (bj - bl (ai - bl bi ai) bj) (aj - bl (bi - bl ai bi) aj) (!left)
  else aj

set_option maxHeartbeats 1600000 in
theorem gap_any (bk : UInt8) (p key nn v0 v1 v2 v3 v4 s : Value) (k bi bj : Int) (left : Bool) (w : World) (hk : Sm k) (hbi : Sm bi) (hbj : Sm bj) :
    Calls Tryd.prog 82 #[.int .i64 k, cmpV (U8 bk) p key bi bj nn v0 v1 v2 v3 v4 s, .bool left] w fun e w' => e = .returned (.int .i64 (gapL k bk bi bj left)) ∧ Ext w w' := by
  obtain ⟨hk1, hk2⟩ := hk
  have hu1 := up_bd bi k (!left)
  have hb1 := bl_bd bi k
  have hu2 := up_bd bj (k - bl bi k) (!left)
  rcases kind_cases bk with rfl | rfl | rfl | rfl | ⟨h0, h4, h5, h6, h7⟩
  case' inr.inr.inr.inr => have HK := hid (show bk ≠ 4 ∧ bk ≠ 5 ∧ bk ≠ 6 ∧ bk ≠ 7 from by simp [knownL] at h0; exact ⟨h0.1.1.1, h0.1.1.2, h0.1.2, h0.2⟩)
  all_goals
    go_enter Tryd.func82, Tryd.ntmps82
    go_wp2_with (first | (go_at_call 80; refine (below_any _ _ _).mono ?_; rintro e w' ⟨rfl, rfl⟩) | (go_at_call 79; refine (upto_any _ _ _ _).mono ?_; rintro e w' ⟨rfl, rfl⟩))
    go_ret
    first | (obtain ⟨k4, k5, k6, k7⟩ := HK.out; exact ⟨by simp [gapL, k4, k5, k6, k7], (Keep.refl _ _).alloc _⟩) | exact ⟨by simp [gapL], (Keep.refl _ _).alloc _⟩

set_option maxHeartbeats 3200000 in
theorem target_any (ak : Value) (bk : UInt8) (ap akey ann a0 a1 a2 a3 a4 as_ p key nn v0 v1 v2 v3 v4 s : Value) (ai aj bi bj : Int) (left : Bool) (w : World) (hai : Sm ai) (haj : Sm aj) (hbi : Sm bi) (hbj : Sm bj) :
    Calls Tryd.prog 97 #[cmpV ak ap akey ai aj ann a0 a1 a2 a3 a4 as_, cmpV (U8 bk) p key bi bj nn v0 v1 v2 v3 v4 s, .bool left] w fun e w' => e = .returned (.int .i64 (targetL ai aj bk bi bj left)) ∧ Ext w w' := by
  obtain ⟨hai1, hai2⟩ := hai
  obtain ⟨haj1, haj2⟩ := haj
  obtain ⟨hbi1, hbi2⟩ := hbi
  obtain ⟨hbj1, hbj2⟩ := hbj
  have hb1 := bl_bd ai bi
  have hb2 := bl_bd bi ai
  have hb3 := bl_bd (bi - bl ai bi) aj
  have hb4 := bl_bd (ai - bl bi ai) bj
  have hu1 := up_bd (bi - bl ai bi) aj (!left)
  have hu2 := up_bd (bj - bl (ai - bl bi ai) bj) (aj - bl (bi - bl ai bi) aj) (!left)
  have e1 : IntKind.i64.wrap (bi - bl ai bi) = bi - bl ai bi := IntWalk.i64_in _ (by omega)
  have e2 : IntKind.i64.wrap (ai - bl bi ai) = ai - bl bi ai := IntWalk.i64_in _ (by omega)
  have e3 : IntKind.i64.wrap (aj - bl (bi - bl ai bi) aj) = aj - bl (bi - bl ai bi) aj := IntWalk.i64_in _ (by omega)
  have e4 : IntKind.i64.wrap (bj - bl (ai - bl bi ai) bj) = bj - bl (ai - bl bi ai) bj := IntWalk.i64_in _ (by omega)
  have e5 : IntKind.i64.wrap (aj + up (bi - bl ai bi) aj (!left)) = aj + up (bi - bl ai bi) aj (!left) := IntWalk.i64_in _ (by omega)
  rcases kind_cases bk with rfl | rfl | rfl | rfl | ⟨h0, h4, h5, h6, h7⟩
  case' inr.inr.inr.inr => have HK := hid (show bk ≠ 4 ∧ bk ≠ 5 ∧ bk ≠ 6 ∧ bk ≠ 7 from by simp [knownL] at h0; exact ⟨h0.1.1.1, h0.1.1.2, h0.1.2, h0.2⟩)
  all_goals
    go_enter Tryd.func97, Tryd.ntmps97
    go_wp2_with fail
    go_quiet ((go_at_call 80; exact quiet_left (below_any _ _ _)))
    go_wp2_with (first | (go_at_call 80; refine (below_any _ _ _).mono ?_; rintro e w' ⟨rfl, rfl⟩) | (go_at_call 79; refine (upto_any _ _ _ _).mono ?_; rintro e w' ⟨rfl, rfl⟩))
    all_goals repeat (go_quiet (first | (go_at_call 80; exact quiet_add_left (below_any _ _ _)) | (go_at_call 79; exact quiet_add_left (upto_any _ _ _ _))); go_wp2_with (first | (go_at_call 80; refine (below_any _ _ _).mono ?_; rintro e w' ⟨rfl, rfl⟩) | (go_at_call 79; refine (upto_any _ _ _ _).mono ?_; rintro e w' ⟨rfl, rfl⟩)))
    all_goals go_ret
    all_goals first | (obtain ⟨k4, k5, k6, k7⟩ := HK.out; refine ⟨by simp [targetL, k4, k5, k6, k7], ?_⟩) | refine ⟨by simp [targetL], ?_⟩
  all_goals (repeat refine ext_drewN_of _ ?_); exact ((Keep.refl _ _).alloc _).alloc _
end Go.Proofs.YtioplgfopillnaaDoor
