/- TurnN, Open, OpenEl, OpenX, OpTok, TurnO, GrowIn, Within, ValWeight, RefSound, LayV, Vld, ValPlain, ValRise, ValSound: laid together. -/
import Derived.Test.YtioplgfopillnaaDoorMeB23
import Derived.Test.YtioplgfopillnaaDoorMeB25
import Derived.Test.YtioplgfopillnaaDoorMeB1
import Derived.OpenShut
import Derived.ProofKit
import Derived.ChangeOld
import Derived.Deep.Slices
import Derived.Deep.Fields
import Derived.ChangeArms
import Derived.SizedLaws
import Derived.Test.YtioplgfopillnaaDoorMeB2
import Derived.Test.YtioplgfopillnaaDoorMeB4
import Derived.OrdersIn
import Derived.RangeFuncNested
import Derived.RangeFuncBound
import Derived.RangeFuncCalls
import Derived.RangeFuncLeaves
import Derived.RangeFuncFrom
import Derived.Test.YtioplgfopillnaaDoorMeB5
import Derived.Shelf.Abstract
import Derived.Shelf.RegionOpen
import Derived.WalkKit
import Derived.OwnWalkIn
import Derived.TacticsInMore
import Derived.LoopNIn
import Derived.LoopIn
import Derived.Test.YtioplgfopillnaaDoorMeB14
import Derived.Test.YtioplgfopillnaaDoorMeB7
import Derived.Shelf.Unicode.ValidAny
import Derived.Ground.NamesProg
import Derived.Test.YtioplgfopillnaaDoorProg
import Derived.Test.YtioplgfopillnaaDoorRows
import Derived.Lib.LaidU8T
import Derived.LaidByTextLater
set_option linter.unusedSimpArgs false
set_option linter.unusedVariables false
set_option maxHeartbeats 25600000
set_option maxRecDepth 20000
namespace Go.Proofs.YtioplgfopillnaaDoor
open Go.RowKit
theorem One6Is.form {v : V} {w w' : World} {e : Ending} (h : One6Is v w e w') : ∃ (k1 : Int) (A1 : Option Addr) (m1 c1 : Nat) (key1 : ByteArray) (i1 j1 n1 vk1 vn1 : Int) (vs1 : ByteArray) (B1 : Option Addr) (p1 q1 : Nat) (D1 : Option Addr) (r1 s1 : Nat) (t1 : ByteArray) (o : Int), e = .returned (.tuple #[.agg #[.int .u8 k1, .slice A1 m1 c1, .string key1, .int .i64 i1, .int .i64 j1, .int .i64 n1, .int .u8 vk1, .int .i64 vn1, .string vs1, .slice B1 p1 q1, .slice D1 r1 s1, .string t1], .int .i64 o]) ∧ (o = 0 ∨ (o = 1 ∧ ∃ c, CAt w' (fun q => w.heap.size ≤ q) (.agg #[.int .u8 k1, .slice A1 m1 c1, .string key1, .int .i64 i1, .int .i64 j1, .int .i64 n1, .int .u8 vk1, .int .i64 vn1, .string vs1, .slice B1 p1 q1, .slice D1 r1 s1, .string t1]) c ∧ OneOk v c)) ∧ Ext w w' := by
 obtain ⟨u, n, rfl, ⟨rfl, k1, A1, m1, c1, key1, i1, j1, n1, vk1, vn1, vs1, B1, p1, q1, D1, r1, s1, t1, rfl⟩ | ⟨rfl, c, hc, ho⟩, hE⟩ := h
 ·exact ⟨_, _, _, _, _, _, _, _, _, _, _, _, _, _, _, _, _, _, 0, rfl, .inl rfl, hE⟩
 ·obtain ⟨pv, lv, ov, rfl, h1, h2, h3⟩ := hc
  obtain ⟨A, cp, rfl, _⟩ := h1.shape
  obtain ⟨B, cl, rfl, _⟩ := h2.shape
  obtain ⟨D, co, rfl, _⟩ := h3.shape
  exact ⟨_, _, _, _, _, _, _, _, _, _, _, _, _, _, _, _, _, _, 1, rfl, .inr ⟨rfl, c, ⟨_, _, _, rfl, h1, h2, h3⟩, ho⟩, hE⟩
theorem OneOk.small {v : V} {c : Cp} (h : OneOk v c) : c.path.length ≤ 1000 ∧ c.v.size ≤ 1000000 := by
 obtain ⟨x, _, h5, _, h⟩ := h
 refine ⟨by omega, ?_⟩
 rcases h with ⟨_, n, _, h⟩ | ⟨_, k, i, n, s, _, h⟩ | ⟨_, k, i, j, y, _, _, h', h⟩ | ⟨_, k, key, y, _, _, h', h⟩
 ·rw [h]; show ZV.size ≤ 1000000; have := ZV.size_ok; omega
 ·rw [h]; show ZV.size ≤ 1000000; have := ZV.size_ok; omega
 ·rw [h]; show y.size ≤ 1000000; omega
 ·rw [h]; show y.size ≤ 1000000; omega
abbrev Wf (a : Ac) : Prop := (Lit.int .i64 a.i).wf = true ∧ (Lit.int .i64 a.j).wf = true ∧ (Lit.int .i64 a.n).wf = true
end Go.Proofs.YtioplgfopillnaaDoor
namespace Go.Proofs.YtioplgfopillnaaDoor
open Go.ChangeShapes Go.WideShapes Go.ChangeAt Go.RowKit
section
variable {H : Type} {enc : TypeId × Value → H} {P : Program} {W : World}
theorem add_cell {x : Addr} {i : Nat} (hx : x.spot = none) : x.add i = ⟨x.block, x.off + i, none⟩ := by
 cases x; simp at hx; subst hx
 unfold Addr.add
 split <;> simp_all
theorem spot_of_cell {x : Addr} {v : Value} (h : W.cell? x = some v) : x.spot = none := by
 unfold World.cell? at h
 split at h
 ·split at h
  ·cases h
  ·rename_i hs; simpa using hs
 ·cases h
theorem u8_of_wf {n : Int} (h : (Lit.int .u8 n).wf = true) : ∃ c : UInt8, n = (c.toNat : Int) := by
 have h1 : 0 ≤ n ∧ n ≤ 255 := by
  simp [Lit.wf, IntKind.has, IntKind.min, IntKind.max, IntKind.signed, IntKind.bits] at h
  omega
 refine ⟨UInt8.ofNat n.toNat, ?_⟩
 rw [UInt8.toNat_ofNat_of_lt' (by simp [UInt8.size]; omega)]
 omega
end
end Go.Proofs.YtioplgfopillnaaDoor
namespace Go.Proofs.YtioplgfopillnaaDoor
open Go.ChangeShapes Go.WideShapes Go.ChangeAt Go.RowKit Go.Deep
theorem cells_build {α : Type} {E : El α} (hE : E.Ok) {w : World} {S : BS} {b off : Nat} : ∀ (n : Nat), (∀ i, i < n → ∃ (x : α) (c0 : List Value), E.rd w S c0 x ∧ ∀ j u, c0[j]? = some u → w.cell? ⟨b, off + (i * E.size + j), none⟩ = some u) →
  ∃ (l : List α) (cs : List Value), l.length = n ∧ Cells E w S cs l ∧ ∀ k u, cs[k]? = some u → w.cell? ⟨b, off + k, none⟩ = some u
 | 0, _ => ⟨[], [], rfl, rfl, fun k u h => by simp at h⟩
 | n + 1, h => by
  obtain ⟨l, cs, hl, hc, hk⟩ := cells_build hE n fun i hi => h i (by omega)
  obtain ⟨x, c0, hx, h0⟩ := h n (by omega)
  refine ⟨l ++ [x], cs ++ c0, by simp [hl], hc.append (Cells.single hx), fun k u hu => ?_⟩
  have hcl := hc.len hE
  rcases Nat.lt_or_ge k cs.length with h1 | h1
  ·rw [List.getElem?_append_left h1] at hu; exact hk k u hu
  ·rw [List.getElem?_append_right h1] at hu
   have := h0 _ u hu
   rwa [show n * E.size + (k - cs.length) = k from by rw [hcl, hl] at h1 ⊢; omega] at this
section
variable {H : Type} {enc : TypeId × Value → H} {P : Program} {W : World}
end
end Go.Proofs.YtioplgfopillnaaDoor
namespace Go.Proofs.YtioplgfopillnaaDoor
open Go.ChangeShapes Go.WideShapes Go.ChangeAt Go.RowKit Go.Deep
def EInt (k : IntKind) : El Int := { size := 1, rd := fun _ _ cs x => cs = [.int k x] }
theorem EInt.ok (k : IntKind) : (EInt k).Ok where
 pos := by show 0 < 1; decide
 len := fun h => by have h := h; subst h; rfl
 one := fun h u hu => by subst h; simp at hu; subst hu; rfl
 keep := fun h _ _ => h
 more := fun h _ => h
def EBool : El Bool := { size := 1, rd := fun _ _ cs x => cs = [.bool x] }
theorem EBool.ok : EBool.Ok where
 pos := by decide
 len := fun h => by subst h; rfl
 one := fun h u hu => by subst h; simp at hu; subst hu; rfl
 keep := fun h _ _ => h
 more := fun h _ => h
def EStr : El ByteArray := { size := 1, rd := fun _ _ cs x => cs = [.string x] }
theorem EStr.ok : EStr.Ok where
 pos := by decide
 len := fun h => by subst h; rfl
 one := fun h u hu => by subst h; simp at hu; subst hu; rfl
 keep := fun h _ _ => h
 more := fun h _ => h
def EPair {α β : Type} (E : El α) (F : El β) : El (α × β) := { size := E.size + F.size, rd := fun w S cs x => ∃ c1 c2, cs = c1 ++ c2 ∧ E.rd w S c1 x.1 ∧ F.rd w S c2 x.2 }
theorem EPair.ok {α β : Type} {E : El α} {F : El β} (hE : E.Ok) (hF : F.Ok) : (EPair E F).Ok where
 pos := by show 0 < E.size + F.size; have := hE.pos; omega
 len := fun ⟨c1, c2, h, h1, h2⟩ => by subst h; rw [List.length_append, hE.len h1, hF.len h2]; rfl
 one := fun ⟨c1, c2, h, h1, h2⟩ u hu => by
  subst h
  rcases List.mem_append.1 hu with hu | hu
  ·exact hE.one h1 u hu
  ·exact hF.one h2 u hu
 keep := fun ⟨c1, c2, h, h1, h2⟩ hk hF' => ⟨c1, c2, h, hE.keep h1 hk hF', hF.keep h2 hk hF'⟩
 more := fun ⟨c1, c2, h, h1, h2⟩ hS => ⟨c1, c2, h, hE.more h1 hS, hF.more h2 hS⟩
section
variable {H : Type} {enc : TypeId × Value → H} {P : Program} {W : World} {spare : Nat → Bool} {held : Bool}
def Fits (P : Program) (t : TypeId) (d : DataW H) : Prop := ∀ n ∈ d.weights P t, n ≤ reachBytes
theorem weightsAll_mem {e : TypeId} {n : Nat} : ∀ {ds : List (DataW H)} {d : DataW H}, d ∈ ds → n ∈ d.weights P e → n ∈ DataW.weightsAll P e ds
 | d :: r, x, hx, hn => by
  rw [DataW.weightsAll]
  rcases List.mem_cons.1 hx with rfl | hx
  ·exact List.mem_append_left _ hn
  ·exact List.mem_append_right _ (weightsAll_mem hx hn)
theorem weightsEach_mem {n : Nat} : ∀ {ts : List TypeId} {ds : List (DataW H)} {i : Nat} {t : TypeId} {d : DataW H}, ts[i]? = some t → ds[i]? = some d → n ∈ d.weights P t → n ∈ DataW.weightsEach P ts ds
 | t :: ts, d :: ds, 0, t', d', ht, hd, hn => by
  simp at ht hd; subst ht hd
  rw [DataW.weightsEach]; exact List.mem_append_left _ hn
 | t :: ts, d :: ds, i + 1, t', d', ht, hd, hn => by
  rw [DataW.weightsEach]; exact List.mem_append_right _ (weightsEach_mem (by simpa using ht) (by simpa using hd) hn)
theorem Fits.of_all {ts : List TypeId} {ds : List (DataW H)} (h : (DataW.weightsEach P ts ds).all (· ≤ reachBytes) = true) {i : Nat} {t : TypeId} {d : DataW H} (ht : ts[i]? = some t) (hd : ds[i]? = some d) : Fits P t d := fun n hn => by
 have := List.all_eq_true.1 h n (weightsEach_mem ht hd hn)
 simpa using this
structure Opens {α : Type} (E : El α) (enc : TypeId × Value → H) (P : Program) (W : World) (spare : Nat → Bool) (held : Bool) (t : TypeId) (Q : α → Prop) : Prop where
 size : P.cellsOf t = E.size
 op : ∀ (fuel : Nat) (cs : List Value) (y : DataW H × List MemPlace), DataW.trod enc P W 0 spare held fuel t cs = some y → Fits P t y.1 → ∃ x, E.rd W (fun k => k < W.heap.size) cs x ∧ Q x
theorem Opens.map {α β : Type} {E : El α} {F : El β} {t : TypeId} {Q : α → Prop} {R : β → Prop} (h : Opens E enc P W spare held t Q) (hs : F.size = E.size) (f : α → β) (hrd : ∀ w S cs x, E.rd w S cs x → F.rd w S cs (f x)) (hQ : ∀ x, Q x → R (f x)) : Opens F enc P W spare held t R :=
 ⟨h.size.trans hs.symm, fun fuel cs y hy hf => by obtain ⟨x, h1, h2⟩ := h.op fuel cs y hy hf; exact ⟨f x, hrd _ _ _ _ h1, hQ _ h2⟩⟩
theorem opens_int {t : TypeId} {k : IntKind} (ht : P.underlying t = some (.int k)) (hc : P.cellsOf t = 1) : Opens (EInt k) enc P W spare held t (fun x => (Lit.int k x).wf = true) :=
 ⟨hc, fun fuel cs y hy _ => by obtain ⟨n, h1, _, h3⟩ := DataW.trod_int ht hy; exact ⟨n, h1, h3⟩⟩
theorem opens_u8 {t : TypeId} (ht : P.underlying t = some (.int .u8)) (hc : P.cellsOf t = 1) : Opens EU8 enc P W spare held t (fun _ => True) :=
 ⟨hc, fun fuel cs y hy _ => by obtain ⟨n, h1, _, h3⟩ := DataW.trod_int ht hy; obtain ⟨c, rfl⟩ := u8_of_wf h3; exact ⟨c, h1, trivial⟩⟩
theorem opens_str {t : TypeId} (ht : P.underlying t = some .string) (hc : P.cellsOf t = 1) : Opens EStr enc P W spare held t (fun s => s.size ≤ reachBytes) :=
 ⟨hc, fun fuel cs y hy hf => by
  obtain ⟨s, h1, h2, _⟩ := DataW.trod_string ht hy
  subst h2
  exact ⟨s, h1, hf s.size (by simp [DataW.weights])⟩⟩
theorem sl_opens {α : Type} {E : El α} (hE : E.Ok) {t e : TypeId} {Q : α → Prop} (ht : P.underlying t = some (.slice e)) (h : Opens E enc P W spare held e Q) {fuel : Nat} {v : Value} {y : DataW H × List MemPlace}
  (hy : DataW.trod enc P W 0 spare held fuel t [v] = some y) (hf : Fits P t y.1) : ∃ l : List α, Sl E W (fun k => k < W.heap.size) v l ∧ l.length * P.bytesOf e ≤ reachBytes ∧ ∀ x ∈ l, Q x := by
 rcases open_slice ht hy with ⟨h0, _⟩ | ⟨x, len, cap, m, n, D, Pl, hcs, _, hl, hm, hmm, hd, hi⟩
 ·obtain rfl : v = .slice none 0 0 := by simpa using h0
  exact ⟨[], Sl.nil _ _, by simp, by simp⟩
 ·obtain rfl : v = .slice (some x) len cap := by simpa using hcs
  subst hd
  have hlen : len ≤ m := by rw [hmm]; split <;> omega
  have hpos := hE.pos
  have hC := h.size
  have hw : ∀ n', n' ∈ DataW.weights P t (DataW.slice ((List.range len).map D) ((List.range (m - len)).map fun j => D (len + j))) ↔ n' ∈ ((((List.range len).map D).length * P.bytesOf e + ((List.range (m - len)).map fun j => D (len + j)).length * P.bytesOf e) :: (DataW.weightsAll P e ((List.range len).map D) ++ DataW.weightsAll P e ((List.range (m - len)).map fun j => D (len + j)))) := fun n' => by
   rw [DataW.weights, ht]; simp [Nat.add_mul]
  have key : ∀ i, i < len → ∃ (z : α) (c0 : List Value), (E.rd W (fun k => k < W.heap.size) c0 z ∧ Q z) ∧ ∀ j, j < E.size → W.cell? (x.add (i * E.size + j)) = c0[j]? := fun i hil => by
   obtain ⟨cs', hc, ht'⟩ := hi i (by omega)
   rw [hC] at hc
   obtain ⟨_, hcl, hat⟩ := World.cells?_some hc
   obtain ⟨z, hz, hq⟩ := h.op n cs' _ ht' (fun n' hn' => hf n' ((hw n').2 (List.mem_cons_of_mem _ (List.mem_append_left _ (weightsAll_mem (List.mem_map.2 ⟨i, List.mem_range.2 hil, rfl⟩) hn')))))
   exact ⟨z, cs', ⟨hz, hq⟩, fun j hj => by rw [← add_add]; exact hat j hj⟩
  have hbytes : len * P.bytesOf e ≤ reachBytes := by
   have := hf _ ((hw _).2 List.mem_cons_self)
   simp at this
   exact Nat.le_trans (Nat.le_add_right _ _) this
  rcases Nat.eq_zero_or_pos len with h0 | h0
  ·subst h0
   exact ⟨[], ⟨[], ⟨by simp, some x, cap, rfl, by simp, hm, fun h => by simp at h⟩, rfl⟩, by simp, by simp⟩
  ·obtain ⟨y0, c0, ⟨hr0, _⟩, hc0⟩ := key 0 h0
   have hl0 := hE.len hr0
   have hcell0 : W.cell? (x.add (0 * E.size + 0)) = some (c0[0]'(by omega)) := by rw [hc0 0 hpos]; exact List.getElem?_eq_getElem _
   have hsp := spot_of_cell (by simpa [Addr.add] using hcell0)
   obtain ⟨b, off, sp⟩ := x
   simp at hsp
   subst hsp
   have hadd : ∀ k, (⟨b, off, none⟩ : Addr).add k = ⟨b, off + k, none⟩ := fun k => add_cell rfl
   have hlt := lt_of_cell (by rw [hadd] at hcell0; exact hcell0)
   let E' : El { z : α // Q z } := { size := E.size, rd := fun w S cs z => E.rd w S cs z.1 }
   have hE' : E'.Ok := ⟨hE.pos, fun h => hE.len h, fun h => hE.one h, fun h => hE.keep h, fun h => hE.more h⟩
   obtain ⟨l, cs, hll, hcc, hcell⟩ := cells_build (E := E') (w := W) (S := fun k => k < W.heap.size) (b := b) (off := off) hE' len fun i hi => by
    obtain ⟨z, c1, ⟨hr, hq⟩, hc⟩ := key i hi
    refine ⟨⟨z, hq⟩, c1, hr, fun j u hu => ?_⟩
    have hj : j < E.size := by have := hE.len hr; have := (List.getElem?_eq_some_iff.1 hu).1; omega
    have := hc j hj
    rw [hadd, hu] at this
    exact this
   have hcc2 : ∀ {cs : List Value} {l : List { z : α // Q z }}, Cells E' W (fun k => k < W.heap.size) cs l → Cells E W (fun k => k < W.heap.size) cs (l.map (·.1)) := by
    intro cs l
    induction l generalizing cs with
    | nil => exact fun h => h
    | cons z l ih => rintro ⟨c0, c1, e, h0, h1⟩; exact ⟨c0, c1, e, h0, ih h1⟩
   refine ⟨l.map (·.1), ⟨cs, ?_, hcc2 hcc⟩, by rw [List.length_map, hll]; exact hbytes, fun x hx => by obtain ⟨z, _, rfl⟩ := List.mem_map.1 hx; exact z.2⟩
   rw [List.length_map]
   exact ⟨hcc.len hE', some ⟨b, off, none⟩, cap, by rw [hll], by omega, hm, fun _ => ⟨b, off, rfl, hlt, hlt, fun j u hu => hcell j u hu⟩⟩
theorem opens_slice {α : Type} {E : El α} (hE : E.Ok) {t e : TypeId} {Q : α → Prop} (ht : P.underlying t = some (.slice e)) (hc : P.cellsOf t = 1) (h : Opens E enc P W spare held e Q) : Opens (ESl E) enc P W spare held t (fun l => l.length * P.bytesOf e ≤ reachBytes ∧ ∀ x ∈ l, Q x) :=
 ⟨hc, fun fuel cs y hy hf => by
  have hv : ∃ v, cs = [v] := by
   rcases open_slice ht hy with ⟨h0, _⟩ | ⟨x, len, cap, m, n, D, Pl, hcs, _⟩
   ·exact ⟨_, h0⟩
   ·exact ⟨_, hcs⟩
  obtain ⟨v, rfl⟩ := hv
  obtain ⟨l, h1, h2⟩ := sl_opens hE ht h hy hf
  exact ⟨l, ⟨v, rfl, h1⟩, h2⟩⟩
def FOp {α : Type} (E : El α) (enc : TypeId × Value → H) (P : Program) (W : World) (spare : Nat → Bool) (held : Bool) (fs : List Field) (off : Nat) (Q : α → Prop) : Prop :=
 ∀ (n : Nat) (cs : List Value) (ys : List (DataW H × List MemPlace)), cs.length = off + E.size → ys.length = fs.length →
  (∀ (i : Nat) (f : Field), fs[i]? = some f → DataW.trod enc P W 0 spare held n f.type ((cs.drop f.offset).take (P.cellsOf f.type)) = ys[i]?) → (∀ (i : Nat) (f : Field) y, fs[i]? = some f → ys[i]? = some y → Fits P f.type y.1) →
  ∃ x, E.rd W (fun k => k < W.heap.size) (cs.drop off) x ∧ Q x
theorem fop_one {α : Type} {E : El α} {f : Field} {off : Nat} {Q : α → Prop} (ho : f.offset = off) (h : Opens E enc P W spare held f.type Q) : FOp E enc P W spare held [f] off Q := by
 intro n cs ys hl hy ht hf
 obtain ⟨y, rfl⟩ : ∃ y, ys = [y] := by
  match ys, hy with
  | [y], _ => exact ⟨y, rfl⟩
 have := ht 0 f rfl
 rw [ho, h.size, List.take_of_length_le (by simp; omega)] at this
 exact h.op n _ y this (hf 0 f y rfl rfl)
theorem fop_cons {α β : Type} {E : El α} {F : El β} {f : Field} {fs : List Field} {off : Nat} {Q : α → Prop} {R : β → Prop} (ho : f.offset = off) (h : Opens E enc P W spare held f.type Q) (hr : FOp F enc P W spare held fs (off + E.size) R) :
  FOp (EPair E F) enc P W spare held (f :: fs) off (fun x => Q x.1 ∧ R x.2) := by
 intro n cs ys hl hy ht hf
 obtain ⟨y, zs, rfl⟩ : ∃ y zs, ys = y :: zs := by
  match ys, hy with
  | y :: zs, _ => exact ⟨y, zs, rfl⟩
 have hl' : cs.length = off + (E.size + F.size) := hl
 have h0 := ht 0 f rfl
 rw [ho, h.size] at h0
 obtain ⟨x1, r1, q1⟩ := h.op n _ y h0 (hf 0 f y rfl rfl)
 obtain ⟨x2, r2, q2⟩ := hr n cs zs (by omega) (by simpa using hy) (fun i g hg => by have := ht (i + 1) g (by simpa using hg); simpa using this) (fun i g z hg hz => hf (i + 1) g z (by simpa using hg) (by simpa using hz))
 refine ⟨(x1, x2), ⟨(cs.drop off).take E.size, cs.drop (off + E.size), ?_, r1, r2⟩, q1, q2⟩
 rw [← List.drop_drop, List.take_append_drop]
theorem opens_struct {α : Type} {E : El α} {t : TypeId} {fs : Array Field} {Q : α → Prop} (ht : P.underlying t = some (.struct fs)) (hc : P.cellsOf t = E.size) (h : FOp E enc P W spare held fs.toList 0 Q) : Opens E enc P W spare held t Q :=
 ⟨hc, fun fuel cs y hy hf => by
  obtain ⟨ys, n, _, hyd, hl, hyl, hfl⟩ := DataW.trod_struct ht hy
  subst hyd
  have hw : ∀ n', n' ∈ DataW.weights P t (DataW.agg (ys.map (·.1))) ↔ n' ∈ DataW.weightsEach P (fs.toList.map (·.type)) (ys.map (·.1)) := fun n' => by rw [DataW.weights, ht]
  have := h n cs ys (by rw [hl, hc]; omega) (by simpa using hyl) (fun i f hi => hfl i f (by simpa using hi)) (fun i f z hi hz n' hn' => hf n' ((hw n').2 (weightsEach_mem (i := i) (by simp [hi]) (by simp [hz]) hn')))
  simpa using this⟩
end
end Go.Proofs.YtioplgfopillnaaDoor
namespace Go.Proofs.YtioplgfopillnaaDoor
open Go.ChangeShapes Go.WideShapes Go.ChangeAt Go.RowKit Go.Deep
theorem op_tok {H : Type} {enc : TypeId × Value → H} {W : World} {spare : Nat → Bool} {held : Bool} : Opens ETok enc Tryd.prog W spare held 57 (fun _ => True) := by
 refine (opens_struct Tryd.underlying57 (by kernel_rfl) (fop_cons rfl (opens_u8 Tryd.underlying5 (by kernel_rfl)) (fop_cons rfl (opens_int Tryd.underlying2 (by kernel_rfl)) (fop_cons rfl (opens_str Tryd.underlying9 (by kernel_rfl))
  (fop_one rfl (opens_u8 Tryd.underlying5 (by kernel_rfl))))))).map rfl (fun x => ⟨x.1, x.2.1, x.2.2.1, x.2.2.2⟩) ?_ ?_
 ·rintro w S cs x ⟨c1, _, rfl, h1, c2, _, rfl, h2, c3, c4, rfl, h3, h4⟩
  show _ = _
  rw [show c1 = _ from h1, show c2 = _ from h2, show c3 = _ from h3, show c4 = _ from h4]; rfl
 ·rintro x _
  trivial
end Go.Proofs.YtioplgfopillnaaDoor
namespace Go.Proofs.YtioplgfopillnaaDoor
open Go.ChangeShapes Go.WideShapes Go.ChangeAt Go.RowKit Go.Deep
theorem op_act {H : Type} {enc : TypeId × Value → H} {W : World} {spare : Nat → Bool} {held : Bool} : Opens EAc enc Tryd.prog W spare held 43 Wf := by
 refine (opens_struct Tryd.underlying43 (by kernel_rfl) (fop_cons rfl (opens_slice EU8.ok Tryd.underlying41 (by kernel_rfl) (opens_u8 Tryd.underlying5 (by kernel_rfl))) (fop_cons rfl (opens_u8 Tryd.underlying5 (by kernel_rfl))
  (fop_cons rfl (opens_int Tryd.underlying3 (by kernel_rfl)) (fop_cons rfl (opens_int Tryd.underlying3 (by kernel_rfl)) (fop_cons rfl (opens_int Tryd.underlying2 (by kernel_rfl)) (fop_cons rfl (opens_str Tryd.underlying9 (by kernel_rfl))
  (fop_one rfl (opens_slice ETok.ok Tryd.underlying23 (by kernel_rfl) op_tok))))))))).map rfl (fun x => ⟨x.1, x.2.1, x.2.2.1, x.2.2.2.1, x.2.2.2.2.1, x.2.2.2.2.2.1, x.2.2.2.2.2.2⟩) ?_ ?_
 ·rintro w S cs x ⟨c1, _, rfl, ⟨pv, h1, h1'⟩, c2, _, rfl, h2, c3, _, rfl, h3, c4, _, rfl, h4, c5, _, rfl, h5, c6, c7, rfl, h6, ⟨vv, h7, h7'⟩⟩
  exact ⟨pv, vv, by rw [h1, show c2 = _ from h2, show c3 = _ from h3, show c4 = _ from h4, show c5 = _ from h5, show c6 = _ from h6, h7]; rfl, h1', h7'⟩
 ·rintro x ⟨_, _, h3, h4, h5, _, _⟩
  exact ⟨h3, h4, h5⟩
end Go.Proofs.YtioplgfopillnaaDoor
namespace Go.Proofs.YtioplgfopillnaaDoor
open Go.RowKit
section
variable {P : Program} {l n : Nat}
end
end Go.Proofs.YtioplgfopillnaaDoor
namespace Go.Proofs.YtioplgfopillnaaDoor
open Go.RowKit Go.Shelf
attribute [local go_sem] Oper.semAt_some
structure Kid (w0 : World) (S : BS) (G : F → Prop) where
 key : ByteArray
 v : V
 A1 : Option Addr
 c1 : Nat
 A2 : Option Addr
 c2 : Nat
 at_ : VAt w0 S (.agg #[U8 v.kind, .int .i64 v.n, .string v.s, .slice A1 v.l.length c1, .slice A2 v.o.length c2]) v
 ok : G (.mk key v)
section
variable {w0 : World} {S : BS} {G : F → Prop}
def Kid.enc (x : Kid w0 S G) : Array Value := #[.string x.key, .agg #[U8 x.v.kind, .int .i64 x.v.n, .string x.v.s, .slice x.A1 x.v.l.length x.c1, .slice x.A2 x.v.o.length x.c2]]
end
end Go.Proofs.YtioplgfopillnaaDoor
namespace Go.Proofs.YtioplgfopillnaaDoor
open Go.RowKit Go.Shelf
attribute [local go_sem] Oper.semAt_some
theorem wrap_add (a b c : Int) : wrap64 (wrap64 a + wrap64 (b + wrap64 c)) = wrap64 (a + (b + c)) := by unfold wrap64; omega
end Go.Proofs.YtioplgfopillnaaDoor
namespace Go.Proofs.YtioplgfopillnaaDoor
open Go.RowKit
def ValAsc (w0 : World) : Prop := ∀ s, Asc s → ∀ w', Ext w0 w' → Calls Tryd.prog 92 #[.string s] w' fun e w'' => e = .returned (.bool true) ∧ Ext w' w''
theorem ValAsc.ext {w0 w : World} (h : ValAsc w0) (he : Ext w0 w) : ValAsc w := fun s hs w' h' => h s hs w' (he.ext h')
theorem rise_at {o : List F} (h : Rise o) {j : Nat} (hj : j + 1 < o.length) : keyLt o[j].key o[j + 1].key = true := List.pairwise_iff_getElem.1 ((rise_iff o).1 h) j (j + 1) (by omega) hj (by omega)
end Go.Proofs.YtioplgfopillnaaDoor
namespace Go.Proofs
open Go.Shelf
def Tryd.laysValid_ren : Go.Shelf.Ren := ⟨fun | 196 => 92 | 259 => 102 | n => n, fun | 9 => 9 | 4 => 4 | 3 => 3 | 5 => 5 | 12 => 12 | 119 => 120 | 0 => 0 | 46 => 124 | 139 => 123 | 138 => 122 | 53 => 125 | n => n, fun | 3 => 0 | 4 => 1 | n => n⟩
theorem Tryd.laysValid : Go.Proofs.Lays.n196 Tryd.prog Tryd.laysValid_ren := {
 mixed := by kernel_rfl
 f196 := Tryd.func92.trans (congrArg some (by kernel_rfl))
 f259 := Tryd.func102.trans (congrArg some (by kernel_rfl))
 t0 := Tryd.underlying0
 a0 := Tryd.isAgg0
 z0 := Tryd.sizeOf0
 v0 := Tryd.zeroValue0
 t3 := Tryd.underlying3
 a3 := Tryd.isAgg3
 z3 := Tryd.sizeOf3
 v3 := Tryd.zeroValue3
 t4 := Tryd.underlying4
 a4 := Tryd.isAgg4
 z4 := Tryd.sizeOf4
 v4 := Tryd.zeroValue4
 t5 := Tryd.underlying5
 a5 := Tryd.isAgg5
 z5 := Tryd.sizeOf5
 v5 := Tryd.zeroValue5
 t9 := Tryd.underlying9
 a9 := Tryd.isAgg9
 z9 := Tryd.sizeOf9
 v9 := Tryd.zeroValue9
 t12 := Tryd.underlying12
 a12 := Tryd.isAgg12
 z12 := Tryd.sizeOf12
 v12 := Tryd.zeroValue12
 t46 := Tryd.underlying124
 a46 := Tryd.isAgg124
 z46 := Tryd.sizeOf124
 v46 := Tryd.zeroValue124
 t53 := Tryd.underlying125
 a53 := Tryd.isAgg125
 z53 := Tryd.sizeOf125
 v53 := Tryd.zeroValue125
 t119 := Tryd.underlying120
 a119 := Tryd.isAgg120
 z119 := Tryd.sizeOf120
 t138 := Tryd.underlying122
 a138 := Tryd.isAgg122
 z138 := Tryd.sizeOf122
 v138 := Tryd.zeroValue122
 t139 := Tryd.underlying123
 a139 := Tryd.isAgg123
 z139 := Tryd.sizeOf123
 v139 := Tryd.zeroValue123
 g3 := by kernel_rfl
 g4 := by kernel_rfl }
end Go.Proofs
namespace Go.Proofs.YtioplgfopillnaaDoor
open Go.RowKit
def ValAny (w0 : World) : Prop := ∀ s : ByteArray, s.size ≤ 9223372036854775807 → ∀ w', Ext w0 w' → Calls Tryd.prog 92 #[.string s] w' fun e w'' => e = .returned (.bool (Lib.validD s.data.toList)) ∧ Ext w' w''
theorem ValAny.ext {w0 w : World} (h : ValAny w0) (he : Ext w0 w) : ValAny w := fun s hs w' h' => h s hs w' (he.ext h')
theorem valid_asc {s : ByteArray} (h : Asc s) : Lib.validD s.data.toList = true := by
 have := Lib.validD_ascii s.data.toList.length s.data.toList (fun b hb => h.1 b (List.mem_of_mem_take hb))
 rw [this, List.drop_length]
 exact Lib.validD_nil
theorem ValAny.asc {w0 : World} (h : ValAny w0) : ValAsc w0 := fun s hs w' he => by
 have := h s (by have := hs.2; omega) w' he
 rw [valid_asc hs] at this
 exact this
theorem val_any {w0 : World} (hT : Lib.Utf8Tabs (Tryd.laysValid_ren.g 3) (Tryd.laysValid_ren.g 4) w0) : ValAny w0 := fun s hs w' he =>
 (Any.utf8_ValidString Tryd.laysValid s w' hs (Utf8Tabs_below hT he.toBelow)).mono fun e w'' h => ⟨h.1, Keep.of_below h.2 fun k h1 h2 => absurd h1 (Nat.not_lt.2 h2)⟩
theorem val_laid {w0 : World} {l : List (String × DataW Unit)} (h : laidMetH Tryd.prog l w0) (hp : l = [("unicode/utf8.acceptRanges", Rows.laid_unicode_utf8_acceptRanges), ("unicode/utf8.first", Rows.laid_unicode_utf8_first)]) : ValAny w0 := by
 subst hp
 rw [MakeChecks.laidMetH_plain _ _ _ (by kernel_rfl)] at h
 have e1 : (Rows.laid_unicode_utf8_first : DataW Unit) = Lib.firstData := by kernel_rfl
 have e2 : (Rows.laid_unicode_utf8_acceptRanges : DataW Unit) = Lib.acceptData := by kernel_rfl
 have h3 : Lib.VarReads Tryd.prog w0 "unicode/utf8.first" Lib.firstData := by rw [← e1]; exact Lib.laidMet.reads h (.tail _ (.head _))
 have h4 : Lib.VarReads Tryd.prog w0 "unicode/utf8.acceptRanges" Lib.acceptData := by rw [← e2]; exact Lib.laidMet.reads h (.head _)
 exact val_any (utf8Tabs_of_readsT (U8Types.of196 Tryd.laysValid) ⟨by kernel_rfl, by kernel_rfl, by kernel_rfl, by kernel_rfl, by kernel_rfl, by kernel_rfl, by kernel_rfl⟩ h3 h4)
def plainB (x : V) : Bool :=
 if x.kind = 0 then x.n == 0 && x.s.toList.isEmpty && x.l.isEmpty && x.o.isEmpty else
 if x.kind = 1 then (x.n == 0 || x.n == 1) && x.s.toList.isEmpty && x.l.isEmpty && x.o.isEmpty else
 if x.kind = 2 then x.s.toList.isEmpty && x.l.isEmpty && x.o.isEmpty else
 if x.kind = 3 then x.n == 0 && Lib.validD x.s.data.toList && x.l.isEmpty && x.o.isEmpty else
 if x.kind = 4 then x.n == 0 && x.s.toList.isEmpty && x.o.isEmpty else
 if x.kind = 5 then x.n == 0 && x.s.toList.isEmpty && x.l.isEmpty else false
def risesB : List F → Bool
 | [] => true
 | a :: r => (match r with | [] => true | b :: _ => keyLt a.key b.key) && risesB r
theorem risesB_iff : ∀ (o : List F), risesB o = true ↔ ∀ i (h : i + 1 < o.length), keyLt o[i].key o[i + 1].key = true
 | [] => by simp [risesB]
 | [a] => by simp [risesB]
 | a :: b :: r => by
  have ih := risesB_iff (b :: r)
  rw [risesB, Bool.and_eq_true, ih]
  constructor
  ·rintro ⟨h1, h2⟩ i h
   cases i with
   | zero => exact h1
   | succ i => exact h2 i (by simpa using h)
  ·intro h
   exact ⟨h 0 (by simp), fun i hi => h (i + 1) (by simpa using hi)⟩
theorem le_cases (a b : ByteArray) : (keyLt b a = true ∧ Op.bytesLess a.toList b.toList = false ∧ (a.toList == b.toList) = false) ∨ (keyLt b a = false ∧ ((Op.bytesLess a.toList b.toList = true ∧ (a.toList == b.toList) = false) ∨ (a.toList = b.toList ∧ (a.toList == b.toList) = true))) := by
 cases h : keyLt b a with
 | true =>
  refine .inl ⟨rfl, ?_, ?_⟩
  ·cases hc : Op.bytesLess a.toList b.toList with
   | false => rfl
   | true => exact absurd (less_trans (show Op.bytesLess b.toList a.toList = true from h) hc) (by rw [less_irrefl]; simp)
  ·rw [beq_eq_false_iff_ne]
   intro e
   have h1 : Op.bytesLess b.toList a.toList = true := h
   rw [e, less_irrefl] at h1
   cases h1
 | false =>
  refine .inr ⟨rfl, ?_⟩
  by_cases e : a.toList = b.toList
  ·exact .inr ⟨e, by simpa using e⟩
  ·exact .inl ⟨less_total (show Op.bytesLess b.toList a.toList = false from h) (fun h => e h.symm), by simpa using e⟩
mutual
def V.snd : V → Bool
 | .mk k n s l o => plainB (.mk k n s l o) && risesB o && V.snds l && F.snds o
def V.snds : List V → Bool
 | [] => true
 | v :: vs => v.snd && V.snds vs
def F.snd : F → Bool
 | .mk k v => Lib.validD k.data.toList && v.snd
def F.snds : List F → Bool
 | [] => true
 | f :: fs => f.snd && F.snds fs
end
theorem V.snd_eq (v : V) : v.snd = (plainB v && risesB v.o && V.snds v.l && F.snds v.o) := by cases v; rw [V.snd]; rfl
theorem F.snd_eq (f : F) : f.snd = (Lib.validD f.key.data.toList && f.v.snd) := by cases f; rw [F.snd]; rfl
theorem V.snds_all : ∀ l : List V, V.snds l = l.all V.snd
 | [] => by simp [V.snds]
 | v :: vs => by rw [V.snds, V.snds_all vs]; rfl
theorem F.snds_all : ∀ l : List F, F.snds l = l.all F.snd
 | [] => by simp [F.snds]
 | v :: vs => by rw [F.snds, F.snds_all vs]; rfl
end Go.Proofs.YtioplgfopillnaaDoor
namespace Go.Proofs.YtioplgfopillnaaDoor
open Go.RowKit Go.Shelf
attribute [local go_sem] Oper.semAt_some
def BigR : Nat := 140737488355328
theorem bigR {n : Nat} (h : n ≤ BigR) : n ≤ 9223372036854775807 := by unfold BigR at h; omega
end Go.Proofs.YtioplgfopillnaaDoor
