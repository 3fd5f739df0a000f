/- OpenX, TextR, Do4A: laid together. -/
import Derived.Test.YtggkidnlmaindaaDoorPxB25
import Derived.SizedLaws
import Derived.Test.YtggkidnlmaindaaDoorPxB6
import Derived.Lib.RuneCountTail
import Derived.Shelf.Unicode.DecodeLastEight
import Derived.Lib.LaidU8T
import Derived.LaidByTextLater
import Derived.Test.YtggkidnlmaindaaDoorPxB2
set_option linter.unusedSimpArgs false
set_option linter.unusedVariables false
set_option maxHeartbeats 25600000
set_option maxRecDepth 20000
namespace Go.Proofs.YtggkidnlmaindaaDoor
open Go.ChangeShapes Go.WideShapes Go.ChangeAt Go.RowKit Go.Deep
def EInt (k : IntKind) : El Int := { size := 1, rd := fun _ _ cs x => cs = [.int k x] }
theorem EInt.ok (k : IntKind) : (EInt k).Ok where
 pos := by show 0 < 1; decide
 len := fun h => by have h := h; subst h; rfl
 one := fun h u hu => by subst h; simp at hu; subst hu; rfl
 keep := fun h _ _ => h
 more := fun h _ => h
def EBool : El Bool := { size := 1, rd := fun _ _ cs x => cs = [.bool x] }
theorem EBool.ok : EBool.Ok where
 pos := by decide
 len := fun h => by subst h; rfl
 one := fun h u hu => by subst h; simp at hu; subst hu; rfl
 keep := fun h _ _ => h
 more := fun h _ => h
def EStr : El ByteArray := { size := 1, rd := fun _ _ cs x => cs = [.string x] }
theorem EStr.ok : EStr.Ok where
 pos := by decide
 len := fun h => by subst h; rfl
 one := fun h u hu => by subst h; simp at hu; subst hu; rfl
 keep := fun h _ _ => h
 more := fun h _ => h
def EPair {α β : Type} (E : El α) (F : El β) : El (α × β) := { size := E.size + F.size, rd := fun w S cs x => ∃ c1 c2, cs = c1 ++ c2 ∧ E.rd w S c1 x.1 ∧ F.rd w S c2 x.2 }
theorem EPair.ok {α β : Type} {E : El α} {F : El β} (hE : E.Ok) (hF : F.Ok) : (EPair E F).Ok where
 pos := by show 0 < E.size + F.size; have := hE.pos; omega
 len := fun ⟨c1, c2, h, h1, h2⟩ => by subst h; rw [List.length_append, hE.len h1, hF.len h2]; rfl
 one := fun ⟨c1, c2, h, h1, h2⟩ u hu => by
  subst h
  rcases List.mem_append.1 hu with hu | hu
  ·exact hE.one h1 u hu
  ·exact hF.one h2 u hu
 keep := fun ⟨c1, c2, h, h1, h2⟩ hk hF' => ⟨c1, c2, h, hE.keep h1 hk hF', hF.keep h2 hk hF'⟩
 more := fun ⟨c1, c2, h, h1, h2⟩ hS => ⟨c1, c2, h, hE.more h1 hS, hF.more h2 hS⟩
section
variable {H : Type} {enc : TypeId × Value → H} {P : Program} {W : World} {spare : Nat → Bool} {held : Bool}
def Fits (P : Program) (t : TypeId) (d : DataW H) : Prop := ∀ n ∈ d.weights P t, n ≤ reachBytes
theorem weightsAll_mem {e : TypeId} {n : Nat} : ∀ {ds : List (DataW H)} {d : DataW H}, d ∈ ds → n ∈ d.weights P e → n ∈ DataW.weightsAll P e ds
 | d :: r, x, hx, hn => by
  rw [DataW.weightsAll]
  rcases List.mem_cons.1 hx with rfl | hx
  ·exact List.mem_append_left _ hn
  ·exact List.mem_append_right _ (weightsAll_mem hx hn)
theorem weightsEach_mem {n : Nat} : ∀ {ts : List TypeId} {ds : List (DataW H)} {i : Nat} {t : TypeId} {d : DataW H}, ts[i]? = some t → ds[i]? = some d → n ∈ d.weights P t → n ∈ DataW.weightsEach P ts ds
 | t :: ts, d :: ds, 0, t', d', ht, hd, hn => by
  simp at ht hd; subst ht hd
  rw [DataW.weightsEach]; exact List.mem_append_left _ hn
 | t :: ts, d :: ds, i + 1, t', d', ht, hd, hn => by
  rw [DataW.weightsEach]; exact List.mem_append_right _ (weightsEach_mem (by simpa using ht) (by simpa using hd) hn)
theorem Fits.of_all {ts : List TypeId} {ds : List (DataW H)} (h : (DataW.weightsEach P ts ds).all (· ≤ reachBytes) = true) {i : Nat} {t : TypeId} {d : DataW H} (ht : ts[i]? = some t) (hd : ds[i]? = some d) : Fits P t d := fun n hn => by
 have := List.all_eq_true.1 h n (weightsEach_mem ht hd hn)
 simpa using this
structure Opens {α : Type} (E : El α) (enc : TypeId × Value → H) (P : Program) (W : World) (spare : Nat → Bool) (held : Bool) (t : TypeId) (Q : α → Prop) : Prop where
 size : P.cellsOf t = E.size
 op : ∀ (fuel : Nat) (cs : List Value) (y : DataW H × List MemPlace), DataW.trod enc P W 0 spare held fuel t cs = some y → Fits P t y.1 → ∃ x, E.rd W (fun k => k < W.heap.size) cs x ∧ Q x
theorem Opens.map {α β : Type} {E : El α} {F : El β} {t : TypeId} {Q : α → Prop} {R : β → Prop} (h : Opens E enc P W spare held t Q) (hs : F.size = E.size) (f : α → β) (hrd : ∀ w S cs x, E.rd w S cs x → F.rd w S cs (f x)) (hQ : ∀ x, Q x → R (f x)) : Opens F enc P W spare held t R :=
 ⟨h.size.trans hs.symm, fun fuel cs y hy hf => by obtain ⟨x, h1, h2⟩ := h.op fuel cs y hy hf; exact ⟨f x, hrd _ _ _ _ h1, hQ _ h2⟩⟩
theorem opens_int {t : TypeId} {k : IntKind} (ht : P.underlying t = some (.int k)) (hc : P.cellsOf t = 1) : Opens (EInt k) enc P W spare held t (fun x => (Lit.int k x).wf = true) :=
 ⟨hc, fun fuel cs y hy _ => by obtain ⟨n, h1, _, h3⟩ := DataW.trod_int ht hy; exact ⟨n, h1, h3⟩⟩
theorem opens_u8 {t : TypeId} (ht : P.underlying t = some (.int .u8)) (hc : P.cellsOf t = 1) : Opens EU8 enc P W spare held t (fun _ => True) :=
 ⟨hc, fun fuel cs y hy _ => by obtain ⟨n, h1, _, h3⟩ := DataW.trod_int ht hy; obtain ⟨c, rfl⟩ := u8_of_wf h3; exact ⟨c, h1, trivial⟩⟩
theorem opens_bool {t : TypeId} (ht : P.underlying t = some .bool) (hc : P.cellsOf t = 1) : Opens EBool enc P W spare held t (fun _ => True) :=
 ⟨hc, fun fuel cs y hy _ => by obtain ⟨b, h1, _⟩ := DataW.trod_bool ht hy; exact ⟨b, h1, trivial⟩⟩
theorem opens_str {t : TypeId} (ht : P.underlying t = some .string) (hc : P.cellsOf t = 1) : Opens EStr enc P W spare held t (fun s => s.size ≤ reachBytes) :=
 ⟨hc, fun fuel cs y hy hf => by
  obtain ⟨s, h1, h2, _⟩ := DataW.trod_string ht hy
  subst h2
  exact ⟨s, h1, hf s.size (by simp [DataW.weights])⟩⟩
theorem sl_opens {α : Type} {E : El α} (hE : E.Ok) {t e : TypeId} {Q : α → Prop} (ht : P.underlying t = some (.slice e)) (h : Opens E enc P W spare held e Q) {fuel : Nat} {v : Value} {y : DataW H × List MemPlace}
  (hy : DataW.trod enc P W 0 spare held fuel t [v] = some y) (hf : Fits P t y.1) : ∃ l : List α, Sl E W (fun k => k < W.heap.size) v l ∧ l.length * P.bytesOf e ≤ reachBytes ∧ ∀ x ∈ l, Q x := by
 rcases open_slice ht hy with ⟨h0, _⟩ | ⟨x, len, cap, m, n, D, Pl, hcs, _, hl, hm, hmm, hd, hi⟩
 ·obtain rfl : v = .slice none 0 0 := by simpa using h0
  exact ⟨[], Sl.nil _ _, by simp, by simp⟩
 ·obtain rfl : v = .slice (some x) len cap := by simpa using hcs
  subst hd
  have hlen : len ≤ m := by rw [hmm]; split <;> omega
  have hpos := hE.pos
  have hC := h.size
  have hw : ∀ n', n' ∈ DataW.weights P t (DataW.slice ((List.range len).map D) ((List.range (m - len)).map fun j => D (len + j))) ↔ n' ∈ ((((List.range len).map D).length * P.bytesOf e + ((List.range (m - len)).map fun j => D (len + j)).length * P.bytesOf e) :: (DataW.weightsAll P e ((List.range len).map D) ++ DataW.weightsAll P e ((List.range (m - len)).map fun j => D (len + j)))) := fun n' => by
   rw [DataW.weights, ht]; simp [Nat.add_mul]
  have key : ∀ i, i < len → ∃ (z : α) (c0 : List Value), (E.rd W (fun k => k < W.heap.size) c0 z ∧ Q z) ∧ ∀ j, j < E.size → W.cell? (x.add (i * E.size + j)) = c0[j]? := fun i hil => by
   obtain ⟨cs', hc, ht'⟩ := hi i (by omega)
   rw [hC] at hc
   obtain ⟨_, hcl, hat⟩ := World.cells?_some hc
   obtain ⟨z, hz, hq⟩ := h.op n cs' _ ht' (fun n' hn' => hf n' ((hw n').2 (List.mem_cons_of_mem _ (List.mem_append_left _ (weightsAll_mem (List.mem_map.2 ⟨i, List.mem_range.2 hil, rfl⟩) hn')))))
   exact ⟨z, cs', ⟨hz, hq⟩, fun j hj => by rw [← add_add]; exact hat j hj⟩
  have hbytes : len * P.bytesOf e ≤ reachBytes := by
   have := hf _ ((hw _).2 List.mem_cons_self)
   simp at this
   exact Nat.le_trans (Nat.le_add_right _ _) this
  rcases Nat.eq_zero_or_pos len with h0 | h0
  ·subst h0
   exact ⟨[], ⟨[], ⟨by simp, some x, cap, rfl, by simp, hm, fun h => by simp at h⟩, rfl⟩, by simp, by simp⟩
  ·obtain ⟨y0, c0, ⟨hr0, _⟩, hc0⟩ := key 0 h0
   have hl0 := hE.len hr0
   have hcell0 : W.cell? (x.add (0 * E.size + 0)) = some (c0[0]'(by omega)) := by rw [hc0 0 hpos]; exact List.getElem?_eq_getElem _
   have hsp := spot_of_cell (by simpa [Addr.add] using hcell0)
   obtain ⟨b, off, sp⟩ := x
   simp at hsp
   subst hsp
   have hadd : ∀ k, (⟨b, off, none⟩ : Addr).add k = ⟨b, off + k, none⟩ := fun k => add_cell rfl
   have hlt := lt_of_cell (by rw [hadd] at hcell0; exact hcell0)
   let E' : El { z : α // Q z } := { size := E.size, rd := fun w S cs z => E.rd w S cs z.1 }
   have hE' : E'.Ok := ⟨hE.pos, fun h => hE.len h, fun h => hE.one h, fun h => hE.keep h, fun h => hE.more h⟩
   obtain ⟨l, cs, hll, hcc, hcell⟩ := cells_build (E := E') (w := W) (S := fun k => k < W.heap.size) (b := b) (off := off) hE' len fun i hi => by
    obtain ⟨z, c1, ⟨hr, hq⟩, hc⟩ := key i hi
    refine ⟨⟨z, hq⟩, c1, hr, fun j u hu => ?_⟩
    have hj : j < E.size := by have := hE.len hr; have := (List.getElem?_eq_some_iff.1 hu).1; omega
    have := hc j hj
    rw [hadd, hu] at this
    exact this
   have hcc2 : ∀ {cs : List Value} {l : List { z : α // Q z }}, Cells E' W (fun k => k < W.heap.size) cs l → Cells E W (fun k => k < W.heap.size) cs (l.map (·.1)) := by
    intro cs l
    induction l generalizing cs with
    | nil => exact fun h => h
    | cons z l ih => rintro ⟨c0, c1, e, h0, h1⟩; exact ⟨c0, c1, e, h0, ih h1⟩
   refine ⟨l.map (·.1), ⟨cs, ?_, hcc2 hcc⟩, by rw [List.length_map, hll]; exact hbytes, fun x hx => by obtain ⟨z, _, rfl⟩ := List.mem_map.1 hx; exact z.2⟩
   rw [List.length_map]
   exact ⟨hcc.len hE', some ⟨b, off, none⟩, cap, by rw [hll], by omega, hm, fun _ => ⟨b, off, rfl, hlt, hlt, fun j u hu => hcell j u hu⟩⟩
theorem opens_slice {α : Type} {E : El α} (hE : E.Ok) {t e : TypeId} {Q : α → Prop} (ht : P.underlying t = some (.slice e)) (hc : P.cellsOf t = 1) (h : Opens E enc P W spare held e Q) : Opens (ESl E) enc P W spare held t (fun l => l.length * P.bytesOf e ≤ reachBytes ∧ ∀ x ∈ l, Q x) :=
 ⟨hc, fun fuel cs y hy hf => by
  have hv : ∃ v, cs = [v] := by
   rcases open_slice ht hy with ⟨h0, _⟩ | ⟨x, len, cap, m, n, D, Pl, hcs, _⟩
   ·exact ⟨_, h0⟩
   ·exact ⟨_, hcs⟩
  obtain ⟨v, rfl⟩ := hv
  obtain ⟨l, h1, h2⟩ := sl_opens hE ht h hy hf
  exact ⟨l, ⟨v, rfl, h1⟩, h2⟩⟩
def FOp {α : Type} (E : El α) (enc : TypeId × Value → H) (P : Program) (W : World) (spare : Nat → Bool) (held : Bool) (fs : List Field) (off : Nat) (Q : α → Prop) : Prop :=
 ∀ (n : Nat) (cs : List Value) (ys : List (DataW H × List MemPlace)), cs.length = off + E.size → ys.length = fs.length →
  (∀ (i : Nat) (f : Field), fs[i]? = some f → DataW.trod enc P W 0 spare held n f.type ((cs.drop f.offset).take (P.cellsOf f.type)) = ys[i]?) → (∀ (i : Nat) (f : Field) y, fs[i]? = some f → ys[i]? = some y → Fits P f.type y.1) →
  ∃ x, E.rd W (fun k => k < W.heap.size) (cs.drop off) x ∧ Q x
theorem fop_one {α : Type} {E : El α} {f : Field} {off : Nat} {Q : α → Prop} (ho : f.offset = off) (h : Opens E enc P W spare held f.type Q) : FOp E enc P W spare held [f] off Q := by
 intro n cs ys hl hy ht hf
 obtain ⟨y, rfl⟩ : ∃ y, ys = [y] := by
  match ys, hy with
  | [y], _ => exact ⟨y, rfl⟩
 have := ht 0 f rfl
 rw [ho, h.size, List.take_of_length_le (by simp; omega)] at this
 exact h.op n _ y this (hf 0 f y rfl rfl)
theorem fop_cons {α β : Type} {E : El α} {F : El β} {f : Field} {fs : List Field} {off : Nat} {Q : α → Prop} {R : β → Prop} (ho : f.offset = off) (h : Opens E enc P W spare held f.type Q) (hr : FOp F enc P W spare held fs (off + E.size) R) :
  FOp (EPair E F) enc P W spare held (f :: fs) off (fun x => Q x.1 ∧ R x.2) := by
 intro n cs ys hl hy ht hf
 obtain ⟨y, zs, rfl⟩ : ∃ y zs, ys = y :: zs := by
  match ys, hy with
  | y :: zs, _ => exact ⟨y, zs, rfl⟩
 have hl' : cs.length = off + (E.size + F.size) := hl
 have h0 := ht 0 f rfl
 rw [ho, h.size] at h0
 obtain ⟨x1, r1, q1⟩ := h.op n _ y h0 (hf 0 f y rfl rfl)
 obtain ⟨x2, r2, q2⟩ := hr n cs zs (by omega) (by simpa using hy) (fun i g hg => by have := ht (i + 1) g (by simpa using hg); simpa using this) (fun i g z hg hz => hf (i + 1) g z (by simpa using hg) (by simpa using hz))
 refine ⟨(x1, x2), ⟨(cs.drop off).take E.size, cs.drop (off + E.size), ?_, r1, r2⟩, q1, q2⟩
 rw [← List.drop_drop, List.take_append_drop]
theorem opens_struct {α : Type} {E : El α} {t : TypeId} {fs : Array Field} {Q : α → Prop} (ht : P.underlying t = some (.struct fs)) (hc : P.cellsOf t = E.size) (h : FOp E enc P W spare held fs.toList 0 Q) : Opens E enc P W spare held t Q :=
 ⟨hc, fun fuel cs y hy hf => by
  obtain ⟨ys, n, _, hyd, hl, hyl, hfl⟩ := DataW.trod_struct ht hy
  subst hyd
  have hw : ∀ n', n' ∈ DataW.weights P t (DataW.agg (ys.map (·.1))) ↔ n' ∈ DataW.weightsEach P (fs.toList.map (·.type)) (ys.map (·.1)) := fun n' => by rw [DataW.weights, ht]
  have := h n cs ys (by rw [hl, hc]; omega) (by simpa using hyl) (fun i f hi => hfl i f (by simpa using hi)) (fun i f z hi hz n' hn' => hf n' ((hw n').2 (weightsEach_mem (i := i) (by simp [hi]) (by simp [hz]) hn')))
  simpa using this⟩
end
end Go.Proofs.YtggkidnlmaindaaDoor
namespace Go.Proofs.YtggkidnlmaindaaDoor
open Go.RowKit
def DecAny (w0 : World) : Prop := ∀ s : ByteArray, ∀ w', Ext w0 w' → Calls Tryd.prog 96 #[.string s] w' fun e w'' => e = .returned (.tuple #[.int .i32 (Lib.decodeGo s).1, .int .i64 (Lib.decodeGo s).2]) ∧ Ext w' w''
theorem DecAny.ext {w0 w : World} (h : DecAny w0) (he : Ext w0 w) : DecAny w := fun s w' h' => h s w' (he.ext h')
theorem dec_any {w0 : World} (hT : Lib.Utf8Tabs (Tryd.laysDR_ren.g 3) (Tryd.laysDR_ren.g 4) w0) : DecAny w0 := fun s w' he =>
 (Any.utf8_DecodeRuneInString Tryd.laysDR s w' (Utf8Tabs_below hT he.toBelow)).mono fun e w'' h => ⟨h.1, Keep.of_below h.2 fun k h1 h2 => absurd h1 (Nat.not_lt.2 h2)⟩
theorem count_step (s : ByteArray) (i : Nat) (h : i < s.size) : Lib.runeCountFrom s (s.size - i) i = 1 + Lib.runeCountFrom s (s.size - (i + (Utf8.decode s i).2)) (i + (Utf8.decode s i).2) := by
 obtain ⟨f, hf⟩ : ∃ f, s.size - i = f + 1 := ⟨s.size - i - 1, by omega⟩
 have hw := Lib.decode_width_pos s i h
 rw [hf, Lib.runeCountFrom, if_pos h]
 congr 1
 exact Lib.fuel_enough s _ _ _ (by omega) (by omega)
theorem ty_ints : TyInfo Tryd.prog 133 3 1 8 := by
 obtain ⟨i, h1, h2, h3, h4⟩ := info_parts (show (Tryd.prog.info? 3).map (fun i => (i.zero, i.size, i.bytes)) = some (some (.int .i64 0), 1, 8) from by kernel_rfl)
 exact ⟨Tryd.underlying133, i, _, h1, h2, h3, h4, rfl⟩
theorem dec_width (s : ByteArray) (i : Nat) (h : i < s.size) : (Lib.decodeGo (s.extract i s.size)).2 = (Utf8.decode s i).2 ∧ (Utf8.decode s i).2 ≤ s.size - i ∧ 1 ≤ (Utf8.decode s i).2 := by
 have hz := Lib.tail_size s i
 have h1 : (Lib.decodeGo (s.extract i s.size)).2 = (Utf8.decode s i).2 := by
  unfold Lib.decodeGo
  rw [if_neg (by omega), Lib.tail_decode, Nat.add_zero]
 have h2 := Lib.decodeGo_le_size (s.extract i s.size)
 exact ⟨h1, by omega, Lib.decode_width_pos s i h⟩
set_option maxRecDepth 100000 in
theorem cuts_any (s : ByteArray) (hs : s.size ≤ 100000) (w : World) (hD : DecAny w) :
  Calls Tryd.prog 88 #[.string s] w fun e w' => ∃ A c, e = .returned (.slice A (Lib.runeCount s + 1) c) ∧ Ext w w' := by
 have HD := hid hD
 clear hD
 go_enter Tryd.func88, Tryd.ntmps88
 go_wp2
 go_loopw [3, 4] (fun o p wr => ∃ (l : List Int) (i : Nat), i ≤ s.size ∧ p = .int .i64 (i : Int) ∧ l.length + Lib.runeCountFrom s (s.size - i) i = Lib.runeCount s ∧ Own (EInt .i64) wr w.heap.size 3 (fun _ => False) o l ∧ Ext w wr) (fun _ p _ => s.size - (intOf p).toNat)
 case atStart => exact ⟨[], 0, Nat.zero_le _, rfl, by simp [Lib.runeCount], Own.nil _ _ _ _, Keep.refl _ _⟩
 case round =>
  obtain ⟨l, i, hi, rfl, hcnt, ho, hE⟩ := hrel
  obtain ⟨Ao, co, rfl, _, _⟩ := ho.shape
  have hle := Lib.runeCount_le s
  have hll : l.length ≤ s.size := by omega
  by_cases hlt : i < s.size
  ·have hw := dec_width s i hlt
   have hst := count_step s i hlt
   obtain ⟨k, hk⟩ : ∃ k, (Utf8.decode s i).2 = k := ⟨_, rfl⟩
   rw [hk] at hw hst
   have HC := hid (show (l ++ [(i : Int)]).length + Lib.runeCountFrom s (s.size - (i + k)) (i + k) = Lib.runeCount s from by rw [List.length_append, List.length_singleton]; omega)
   obtain ⟨W1, hW1⟩ : ∃ W1, wr.alloc (.cells #[.int .i64 (i : Int)] 3) = W1 := ⟨_, rfl⟩
   have hE1 : Ext wr W1 := by rw [← hW1]; exact (Keep.refl _ _).alloc _
   have hrow : RowS W1 (fun k => k = wr.heap.size) 1 (.slice (some ⟨wr.heap.size, 0, none⟩) 1 1) 1 [.int .i64 (i : Int)] := by
    rw [← hW1]; exact RowS.new (w := wr) (t := 3) (sz := 1) (cs := [.int .i64 (i : Int)]) (n := 1) rfl (by simp [maxLen])
   have HO := hid (ho.ext (EInt.ok .i64) hE1)
   have HRW := hid hrow
   have HW1 := hid hW1
   have HE1 := hid (hE.ext hE1)
   have HL := hid (fun g (e : (Value.slice Ao l.length co).ownBlock = some g) => (ho.lt e).1)
   have hw1 := hw.1
   have hw2 := hw.2.1
   have hw3 := hw.2.2
   have hsl : (i : Int) < s.size := by omega
   clear hcnt ho hE hE1 hrow hk hst hw hW1
   go_wp2_with (at_builtin; refine wpList_own_append2 (P := Tryd.prog) (E := EInt .i64) (v := .slice Ao l.length co) (ys := [(i : Int)]) _ rfl (.tmp 11) (.tmp 13) (EInt.ok .i64) ty_ints rfl rfl rfl (HW1.out ▸ HO.out) (HW1.out ▸ HRW.out) (Cells.single (S := fun _ => False) rfl) ?f1 ?f2 ?f3 ?f4 ?_)
   case f1 => exact fun g _ => ⟨id, id⟩
   case f2 => simp only [List.length_singleton]; omega
   case f3 => simp only [List.length_singleton, maxLen]; omega
   case f4 => rw [HW1.out]; exact HE1.out.size
   intro v2 w2 hown2 hk2 hb2
   rw [HW1.out] at hk2
   obtain ⟨A2, c2, e2, _⟩ := hown2.shape
   subst e2
   have HO2 := hid (hown2.more (S' := fun _ => False) (EInt.ok .i64) fun _ _ h => by simp at h)
   have HE2 := hid (HE1.out.trans hk2 fun k hk e => by have := HL.out k e; omega)
   clear hown2 hk2 hb2 HO HRW
   rw [show (l ++ [(i : Int)]).length = l.length + 1 from by simp] at HO2 ⊢
   go_wp2_with fail
   refine (HD.out _ w2 HE2.out).mono ?_
   rintro e w3 ⟨rfl, hE3⟩
   rw [hw1]
   have HE3 := hid (HE2.out.ext hE3)
   have HO3 := hid (HO2.out.ext (EInt.ok .i64) hE3)
   generalize (Lib.decodeGo (s.extract i s.size)).1 = rn at *
   clear hE3 hw1 HO2
   go_wp2
   exact ⟨⟨l ++ [(i : Int)], i + k, by omega, by go_num, HC.out, HO3.out, HE3.out⟩, by simp [intOf]; omega⟩
  ·obtain rfl : i = s.size := by omega
   have hc0 : l.length = Lib.runeCount s := by rw [Lib.runeCountFrom_end s _ _ (by omega)] at hcnt; exact hcnt
   obtain ⟨W1, hW1⟩ : ∃ W1, wr.alloc (.cells #[.int .i64 (s.size : Int)] 3) = W1 := ⟨_, rfl⟩
   have hE1 : Ext wr W1 := by rw [← hW1]; exact (Keep.refl _ _).alloc _
   have hrow : RowS W1 (fun k => k = wr.heap.size) 1 (.slice (some ⟨wr.heap.size, 0, none⟩) 1 1) 1 [.int .i64 (s.size : Int)] := by
    rw [← hW1]; exact RowS.new (w := wr) (t := 3) (sz := 1) (cs := [.int .i64 (s.size : Int)]) (n := 1) rfl (by simp [maxLen])
   have HO := hid (ho.ext (EInt.ok .i64) hE1)
   have HRW := hid hrow
   have HW1 := hid hW1
   have HE1 := hid (hE.ext hE1)
   have HL := hid (fun g (e : (Value.slice Ao l.length co).ownBlock = some g) => (ho.lt e).1)
   have HC0 := hid hc0
   clear hcnt ho hE hE1 hrow hW1 hc0
   go_wp2_with (at_builtin; refine wpList_own_append2 (P := Tryd.prog) (E := EInt .i64) (v := .slice Ao l.length co) (ys := [(s.size : Int)]) _ rfl (.tmp 25) (.tmp 28) (EInt.ok .i64) ty_ints rfl rfl rfl (HW1.out ▸ HO.out) (HW1.out ▸ HRW.out) (Cells.single (S := fun _ => False) rfl) ?f1 ?f2 ?f3 ?f4 ?_)
   case f1 => exact fun g _ => ⟨id, id⟩
   case f2 => simp only [List.length_singleton]; omega
   case f3 => simp only [List.length_singleton, maxLen]; omega
   case f4 => rw [HW1.out]; exact HE1.out.size
   intro v2 w2 hown2 hk2 hb2
   rw [HW1.out] at hk2
   obtain ⟨A2, c2, e2, _⟩ := hown2.shape
   subst e2
   have HE2 := hid (HE1.out.trans hk2 fun k hk e => by have := HL.out k e; omega)
   rw [show (l ++ [(s.size : Int)]).length = l.length + 1 from by simp]
   clear hown2 hk2 hb2 HO HRW
   go_wp2
   go_ret
   exact ⟨A2, c2, by rw [← HC0.out]; rfl, HE2.out⟩
theorem rlen_any (s : ByteArray) (hs : s.size ≤ 100000) (w : World) (hD : DecAny w) :
  Calls Tryd.prog 95 #[.string s] w fun e w' => e = .returned (.int .i64 (Lib.runeCount s : Nat)) ∧ Ext w w' := by
 have hle := Lib.runeCount_le s
 have HC := hid (cuts_any s hs w hD)
 clear hD
 go_enter Tryd.func95, Tryd.ntmps95
 go_wp2_with fail
 refine HC.out.mono ?_
 rintro e w1 ⟨A, c, rfl, hE⟩
 have HE := hid hE
 generalize hn : Lib.runeCount s = n at *
 have HN := hid hn
 clear hE HC hn
 go_wp2
 go_ret
 exact ⟨by rw [HN.out]; rfl, HE.out⟩
theorem next_asc (s : ByteArray) (ha : ∀ (j : Nat) (h : j < s.size), (s[j]'h).toNat < 128) (pos : Nat) (hp : pos < s.size) : (Utf8.decode s pos).2 = 1 := by rw [decode_ascii s pos hp (ha pos hp)]
def Asc9 (s : ByteArray) : Prop := (∀ (j : Nat) (h : j < s.size), (s[j]'h).toNat < 128) ∧ s.size ≤ 2000
theorem Asc9.count {s : ByteArray} (h : Asc9 s) : Lib.runeCount s = s.size := Lib.runeCount_ascii s h.1
def idxL (n : Nat) : List Int := (List.range n).map fun (k : Nat) => (k : Int)
theorem idxL_len (n : Nat) : (idxL n).length = n := by simp [idxL]
theorem idxL_next (n : Nat) : idxL n ++ [(n : Int)] = idxL (n + 1) := by simp [idxL, List.range_succ]
theorem idxL_get {n k : Nat} (h : k < n) : (idxL n)[k]? = some (k : Int) := by simp [idxL, h]
set_option maxRecDepth 100000 in
theorem cuts_asc (s : ByteArray) (hs : Asc9 s) (w : World) (hD : DecAny w) :
  Calls Tryd.prog 88 #[.string s] w fun e w' => ∃ A c, e = .returned (.slice A (s.size + 1) c) ∧ Sl (EInt .i64) w' (fun _ => True) (.slice A (s.size + 1) c) (idxL (s.size + 1)) ∧ Ext w w' := by
 have HD := hid hD
 have HS := hid hs
 have hsz := hs.2
 clear hD hs
 go_enter Tryd.func88, Tryd.ntmps88
 go_wp2
 go_loopw [3, 4] (fun o p wr => ∃ (i : Nat), i ≤ s.size ∧ p = .int .i64 (i : Int) ∧ Own (EInt .i64) wr w.heap.size 3 (fun _ => False) o (idxL i) ∧ Ext w wr) (fun _ p _ => s.size - (intOf p).toNat)
 case atStart => exact ⟨0, Nat.zero_le _, rfl, Own.nil _ _ _ _, Keep.refl _ _⟩
 case round =>
  obtain ⟨i, hi, rfl, ho, hE⟩ := hrel
  obtain ⟨Ao, co, rfl, _, _⟩ := ho.shape
  rw [idxL_len] at ho ⊢
  by_cases hlt : i < s.size
  ·have hw := dec_width s i hlt
   rw [next_asc s HS.out.1 i hlt] at hw
   obtain ⟨W1, hW1⟩ : ∃ W1, wr.alloc (.cells #[.int .i64 (i : Int)] 3) = W1 := ⟨_, rfl⟩
   have hE1 : Ext wr W1 := by rw [← hW1]; exact (Keep.refl _ _).alloc _
   have hrow : RowS W1 (fun k => k = wr.heap.size) 1 (.slice (some ⟨wr.heap.size, 0, none⟩) 1 1) 1 [.int .i64 (i : Int)] := by
    rw [← hW1]; exact RowS.new (w := wr) (t := 3) (sz := 1) (cs := [.int .i64 (i : Int)]) (n := 1) rfl (by simp [maxLen])
   have HO := hid (ho.ext (EInt.ok .i64) hE1)
   have HRW := hid hrow
   have HW1 := hid hW1
   have HE1 := hid (hE.ext hE1)
   have HL := hid (fun g (e : (Value.slice Ao i co).ownBlock = some g) => (ho.lt e).1)
   have hw1 := hw.1
   have hw2 := hw.2.1
   have hw3 := hw.2.2
   have hsl : (i : Int) < s.size := by omega
   clear ho hE hE1 hrow hw hW1
   go_wp2_with (at_builtin; refine wpList_own_append2 (P := Tryd.prog) (E := EInt .i64) (v := .slice Ao i co) (xs := idxL i) (ys := [(i : Int)]) _ rfl (.tmp 11) (.tmp 13) (EInt.ok .i64) ty_ints rfl rfl rfl (HW1.out ▸ HO.out) (HW1.out ▸ HRW.out) (Cells.single (S := fun _ => False) rfl) ?f1 ?f2 ?f3 ?f4 ?_)
   case f1 => exact fun g _ => ⟨id, id⟩
   case f2 => rw [idxL_len]; simp only [List.length_singleton]; omega
   case f3 => rw [idxL_len]; simp only [List.length_singleton, maxLen]; omega
   case f4 => rw [HW1.out]; exact HE1.out.size
   intro v2 w2 hown2 hk2 hb2
   rw [HW1.out] at hk2
   rw [idxL_next] at hown2
   obtain ⟨A2, c2, e2, _⟩ := hown2.shape
   subst e2
   have HO2 := hid (hown2.more (S' := fun _ => False) (EInt.ok .i64) fun _ _ h => by simp at h)
   have HE2 := hid (HE1.out.trans hk2 fun k hk e => by have := HL.out k e; omega)
   clear hown2 hk2 hb2 HO HRW
   rw [idxL_len] at HO2 ⊢
   go_wp2_with fail
   refine (HD.out _ w2 HE2.out).mono ?_
   rintro e w3 ⟨rfl, hE3⟩
   rw [hw1]
   have HE3 := hid (HE2.out.ext hE3)
   have HO3 := hid (HO2.out.ext (EInt.ok .i64) hE3)
   generalize (Lib.decodeGo (s.extract i s.size)).1 = rn at *
   clear hE3 hw1 HO2
   go_wp2
   exact ⟨⟨i + 1, by omega, by go_num, HO3.out, HE3.out⟩, by simp [intOf]; omega⟩
  ·obtain rfl : i = s.size := by omega
   obtain ⟨W1, hW1⟩ : ∃ W1, wr.alloc (.cells #[.int .i64 (s.size : Int)] 3) = W1 := ⟨_, rfl⟩
   have hE1 : Ext wr W1 := by rw [← hW1]; exact (Keep.refl _ _).alloc _
   have hrow : RowS W1 (fun k => k = wr.heap.size) 1 (.slice (some ⟨wr.heap.size, 0, none⟩) 1 1) 1 [.int .i64 (s.size : Int)] := by
    rw [← hW1]; exact RowS.new (w := wr) (t := 3) (sz := 1) (cs := [.int .i64 (s.size : Int)]) (n := 1) rfl (by simp [maxLen])
   have HO := hid (ho.ext (EInt.ok .i64) hE1)
   have HRW := hid hrow
   have HW1 := hid hW1
   have HE1 := hid (hE.ext hE1)
   have HL := hid (fun g (e : (Value.slice Ao s.size co).ownBlock = some g) => (ho.lt e).1)
   clear ho hE hE1 hrow hW1
   go_wp2_with (at_builtin; refine wpList_own_append2 (P := Tryd.prog) (E := EInt .i64) (v := .slice Ao s.size co) (xs := idxL s.size) (ys := [(s.size : Int)]) _ rfl (.tmp 25) (.tmp 28) (EInt.ok .i64) ty_ints rfl rfl rfl (HW1.out ▸ HO.out) (HW1.out ▸ HRW.out) (Cells.single (S := fun _ => False) rfl) ?f1 ?f2 ?f3 ?f4 ?_)
   case f1 => exact fun g _ => ⟨id, id⟩
   case f2 => rw [idxL_len]; simp only [List.length_singleton]; omega
   case f3 => rw [idxL_len]; simp only [List.length_singleton, maxLen]; omega
   case f4 => rw [HW1.out]; exact HE1.out.size
   intro v2 w2 hown2 hk2 hb2
   rw [HW1.out] at hk2
   rw [idxL_next] at hown2
   obtain ⟨A2, c2, e2, _⟩ := hown2.shape
   subst e2
   have HO2 := hid (hown2.more (S' := fun _ => False) (EInt.ok .i64) fun _ _ h => by simp at h)
   have HE2 := hid (HE1.out.trans hk2 fun k hk e => by have := HL.out k e; omega)
   clear hown2 hk2 hb2 HO HRW
   rw [idxL_len] at HO2 ⊢
   go_wp2
   go_ret
   exact ⟨A2, c2, rfl, (HO2.out.sl (EInt.ok .i64)).more (EInt.ok .i64) fun _ _ _ => trivial, HE2.out⟩
end Go.Proofs.YtggkidnlmaindaaDoor
