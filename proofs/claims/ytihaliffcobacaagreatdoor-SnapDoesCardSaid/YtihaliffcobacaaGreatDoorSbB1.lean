/- Base, Open, Data, OpenEl, OpenX: laid together. -/
import Derived.Below
import Derived.Laws.OwnMore
import Derived.Deep.Draws
import Derived.Laws.Rows
import Derived.OpenShut
import Derived.ProofKit
import Derived.ChangeOld
import Derived.Deep.AppendLies
import Derived.Maps.AppendAt
import Derived.Deep.Slices
import Derived.Deep.Fields
import Derived.ChangeArms
import Derived.SizedLaws
set_option linter.unusedSimpArgs false
set_option linter.unusedVariables false
set_option maxHeartbeats 25600000
set_option maxRecDepth 20000
namespace Go.Proofs.YtihaliffcobacaaGreatDoor
open Go.RowKit
structure Keep (F : Nat → Prop) (w w' : World) : Prop where
 os : w'.os = w.os
 tape : w'.tape = w.tape
 output : w'.output = w.output
 size : w.heap.size ≤ w'.heap.size
 block : ∀ k, k < w.heap.size → ¬ F k → w'.heap[k]? = w.heap[k]?
abbrev Ext (w w' : World) : Prop := Keep (fun _ => False) w w'
section
variable {F G : Nat → Prop} {a w w' w'' : World}
theorem Keep.refl (F : Nat → Prop) (w : World) : Keep F w w := ⟨rfl, rfl, rfl, Nat.le_refl _, fun _ _ _ => rfl⟩
theorem Keep.mono (h : Keep F w w') (hg : ∀ k, k < w.heap.size → F k → G k) : Keep G w w' :=
 ⟨h.os, h.tape, h.output, h.size, fun k hk hn => h.block k hk fun hf => hn (hg k hk hf)⟩
theorem Keep.trans (h : Keep F w w') (h' : Keep G w' w'') (hg : ∀ k, k < w.heap.size → G k → F k) : Keep F w w'' :=
 ⟨h'.os.trans h.os, h'.tape.trans h.tape, h'.output.trans h.output, Nat.le_trans h.size h'.size, fun k hk hn =>
  (h'.block k (Nat.lt_of_lt_of_le hk h.size) fun hG => hn (hg k hk hG)).trans (h.block k hk hn)⟩
theorem Keep.ext (h : Keep F w w') (h' : Ext w' w'') : Keep F w w'' := h.trans h' fun _ _ x => x.elim
theorem Keep.drew (h : Keep F a w) : Keep F a w.drew := ⟨h.os, h.tape, h.output, h.size, h.block⟩
theorem Keep.alloc (h : Keep F a w) (o : Obj) : Keep F a (w.alloc o) :=
 h.ext ⟨rfl, rfl, rfl, by simp, fun k hk _ => Below.heap_alloc _ _ _ hk⟩
theorem Keep.setCell (h : Keep F a w) {p : Addr} (hp : p.block < a.heap.size → F p.block) (u : Value) : Keep F a (w.setCell p u) :=
 h.trans (G := fun k => k = p.block) ⟨rfl, rfl, rfl, by simp [World.setCell], fun k _ hn => Below.heap_setCell _ _ _ _ hn⟩ (fun k hk e => by subst e; exact hp hk)
theorem Keep.setAt (h : Keep F a w) {b : Nat} (hb : b < a.heap.size → F b) (i : Nat) (u : Value) : Keep F a (w.setCell ⟨b, i, none⟩ u) := h.setCell hb u
theorem Keep.set1 {b : Nat} (h : Keep (· = b) a w) (i : Nat) (u : Value) : Keep (· = b) a (w.setCell ⟨b, i, none⟩ u) := h.setAt (fun _ => rfl) i u
theorem Keep.grown (h : Keep F a w) {row : Option Nat} (hg : w.grownBy w' row) (hr : ∀ k, row = some k → k < a.heap.size → F k) : Keep F a w' :=
 h.trans (G := fun k => row = some k) ⟨hg.os, hg.tape, hg.output, hg.size, fun k hk hn => hg.block k hk fun e => hn e.symm⟩ (fun k hk e => hr k e hk)
theorem Keep.below (h : Keep F w w') {B : Nat} (hB : B ≤ w.heap.size) (hF : ∀ k, k < B → ¬ F k) : Below B w w' :=
 ⟨h.os, h.tape, h.output, h.size, fun k hk => h.block k (Nat.lt_of_lt_of_le hk hB) (hF k hk)⟩
theorem Keep.toBelow (h : Ext w w') : Below w.heap.size w w' := h.below (Nat.le_refl _) fun _ _ x => x
theorem Keep.of_below {B : Nat} (h : Below B w w') (hF : ∀ k, k < w.heap.size → B ≤ k → F k) : Keep F w w' :=
 ⟨h.os, h.tape, h.output, h.size, fun k hk hn => h.block k (by
  rcases Nat.lt_or_ge k B with h1 | h1
  ·exact h1
  ·exact absurd (hF k hk h1) hn)⟩
theorem Keep.cell (h : Keep F w w') {p : Addr} (hk : p.block < w.heap.size) (hp : ¬ F p.block) : w'.cell? p = w.cell? p := World.cell?_of_block (w := w) (h.block p.block hk hp)
theorem Keep.frozen (h : Keep F w w') {p : Addr} (hk : p.block < w.heap.size) (hp : ¬ F p.block) : w'.frozen? p = w.frozen? p := World.frozen?_of_block (w := w) (h.block p.block hk hp)
theorem lt_of_cell {p : Addr} {v : Value} (h : w.cell? p = some v) : p.block < w.heap.size := by
 rcases Nat.lt_or_ge p.block w.heap.size with h' | h'
 ·exact h'
 ·simp [World.cell?, Array.getElem?_eq_none h'] at h
end
def Blk (w : World) (g : Nat) (t : TypeId) (cs : Array Value) : Prop := w.heap[g]? = some (.cells cs t (0, 0))
section
variable {F : Nat → Prop} {w w' : World} {g : Nat} {t : TypeId} {cs : Array Value}
theorem Blk.lt (h : Blk w g t cs) : g < w.heap.size := by
 rcases Nat.lt_or_ge g w.heap.size with hlt | hge
 ·exact hlt
 ·unfold Blk at h; rw [Array.getElem?_eq_none hge] at h; cases h
theorem Blk.cell (h : Blk w g t cs) (i : Nat) : w.cell? ⟨g, i, none⟩ = cs[i]? := cell_of_row w g i cs t (0, 0) h
theorem Blk.frozen (h : Blk w g t cs) (i : Nat) : w.frozen? ⟨g, i, none⟩ = false := by
 unfold Blk at h
 simp [World.frozen?, h]
theorem Blk.new (w : World) (t : TypeId) (cs : Array Value) : Blk (w.alloc (.cells cs t)) w.heap.size t cs := heap_alloc_new w _
theorem Blk.drew (h : Blk w g t cs) : Blk w.drew g t cs := h
theorem Blk.alloc (h : Blk w g t cs) (o : Obj) : Blk (w.alloc o) g t cs := (Below.heap_alloc w o g h.lt).trans h
theorem Blk.set_ (h : Blk w g t cs) (i : Nat) (u : Value) : Blk (w.setCell ⟨g, i, none⟩ u) g t (cs.setIfInBounds i u) := by
 unfold Blk at h ⊢
 simp [World.setCell, Array.getElem?_modify, h]
theorem Blk.keep (h : Blk w g t cs) (hb : Keep F w w') (hg : ¬ F g) : Blk w' g t cs := (hb.block g h.lt hg).trans h
theorem Blk.grown {row : Option Nat} (h : Blk w g t cs) (hb : w.grownBy w' row) (hg : some g ≠ row) : Blk w' g t cs := (hb.block g h.lt hg).trans h
theorem Blk.ne_ {g' : Nat} {t' : TypeId} {cs' : Array Value} (h : Blk w g t cs) (h' : Blk w g' t' cs') (hne : t ≠ t') : g ≠ g' := by
 rintro rfl
 unfold Blk at h h'
 rw [h] at h'
 injection h' with h'
 injection h' with _ ht
 exact hne ht
end
theorem sq12 {w : World} {b : Nat} {T : TypeId} {a0 a1 a2 a3 a4 a5 a6 a7 a8 a9 a10 a11 : Value} (h : Blk w b T #[a0, a1, a2, a3, a4, a5, a6, a7, a8, a9, a10, a11]) : w.cell? ⟨b, 0, none⟩ = some a0 ∧ w.cell? ⟨b, 1, none⟩ = some a1 ∧ w.cell? ⟨b, 2, none⟩ = some a2 ∧ w.cell? ⟨b, 3, none⟩ = some a3 ∧ w.cell? ⟨b, 4, none⟩ = some a4 ∧ w.cell? ⟨b, 5, none⟩ = some a5 ∧ w.cell? ⟨b, 6, none⟩ = some a6 ∧ w.cell? ⟨b, 7, none⟩ = some a7 ∧ w.cell? ⟨b, 8, none⟩ = some a8 ∧ w.cell? ⟨b, 9, none⟩ = some a9 ∧ w.cell? ⟨b, 10, none⟩ = some a10 ∧ w.cell? ⟨b, 11, none⟩ = some a11 := ⟨h.cell 0, h.cell 1, h.cell 2, h.cell 3, h.cell 4, h.cell 5, h.cell 6, h.cell 7, h.cell 8, h.cell 9, h.cell 10, h.cell 11⟩
theorem sq7 {w : World} {b : Nat} {T : TypeId} {a0 a1 a2 a3 a4 a5 a6 : Value} (h : Blk w b T #[a0, a1, a2, a3, a4, a5, a6]) : w.cell? ⟨b, 0, none⟩ = some a0 ∧ w.cell? ⟨b, 1, none⟩ = some a1 ∧ w.cell? ⟨b, 2, none⟩ = some a2 ∧ w.cell? ⟨b, 3, none⟩ = some a3 ∧ w.cell? ⟨b, 4, none⟩ = some a4 ∧ w.cell? ⟨b, 5, none⟩ = some a5 ∧ w.cell? ⟨b, 6, none⟩ = some a6 := ⟨h.cell 0, h.cell 1, h.cell 2, h.cell 3, h.cell 4, h.cell 5, h.cell 6⟩
theorem sq5 {w : World} {b : Nat} {T : TypeId} {a0 a1 a2 a3 a4 : Value} (h : Blk w b T #[a0, a1, a2, a3, a4]) : w.cell? ⟨b, 0, none⟩ = some a0 ∧ w.cell? ⟨b, 1, none⟩ = some a1 ∧ w.cell? ⟨b, 2, none⟩ = some a2 ∧ w.cell? ⟨b, 3, none⟩ = some a3 ∧ w.cell? ⟨b, 4, none⟩ = some a4 := ⟨h.cell 0, h.cell 1, h.cell 2, h.cell 3, h.cell 4⟩
theorem sqf12 {w : World} {b : Nat} {T : TypeId} {cs : Array Value} (h : Blk w b T cs) : w.frozen? ⟨b, 0, none⟩ = false ∧ w.frozen? ⟨b, 1, none⟩ = false ∧ w.frozen? ⟨b, 2, none⟩ = false ∧ w.frozen? ⟨b, 3, none⟩ = false ∧ w.frozen? ⟨b, 4, none⟩ = false ∧ w.frozen? ⟨b, 5, none⟩ = false ∧ w.frozen? ⟨b, 6, none⟩ = false ∧ w.frozen? ⟨b, 7, none⟩ = false ∧ w.frozen? ⟨b, 8, none⟩ = false ∧ w.frozen? ⟨b, 9, none⟩ = false ∧ w.frozen? ⟨b, 10, none⟩ = false ∧ w.frozen? ⟨b, 11, none⟩ = false := ⟨h.frozen 0, h.frozen 1, h.frozen 2, h.frozen 3, h.frozen 4, h.frozen 5, h.frozen 6, h.frozen 7, h.frozen 8, h.frozen 9, h.frozen 10, h.frozen 11⟩
theorem sqf5 {w : World} {b : Nat} {T : TypeId} {cs : Array Value} (h : Blk w b T cs) : w.frozen? ⟨b, 0, none⟩ = false ∧ w.frozen? ⟨b, 1, none⟩ = false ∧ w.frozen? ⟨b, 2, none⟩ = false ∧ w.frozen? ⟨b, 3, none⟩ = false ∧ w.frozen? ⟨b, 4, none⟩ = false := ⟨h.frozen 0, h.frozen 1, h.frozen 2, h.frozen 3, h.frozen 4⟩
theorem sqw {w w' : World} (h : Ext w w') {p : Addr} {v : Value} (x : w.cell? p = some v) : w'.cell? p = some v := (h.cell (lt_of_cell x) id).trans x
theorem sqa {α : Type} (l : List α) (i : Nat) (a : α) : l.toArray.setIfInBounds i a = (l.set i a).toArray := List.setIfInBounds_toArray l i a
theorem sqb {α : Type} (a b : α) (l : List α) : (a :: l).set 0 b = b :: l := rfl
theorem sqc {α : Type} (a b : α) (l : List α) (n : Nat) : (a :: l).set (n + 1) b = a :: l.set n b := rfl
abbrev U8 (c : UInt8) : Value := .int .u8 (c.toNat : Int)
def Row (w : World) (B : Nat) (v : Value) (l : List Value) : Prop :=
 ∃ A c, v = .slice A l.length c ∧ l.length ≤ c ∧ c ≤ maxLen ∧
  (0 < l.length → ∃ b off, A = some ⟨b, off, none⟩ ∧ b < B ∧ ∀ i u, l[i]? = some u → w.cell? ⟨b, off + i, none⟩ = some u)
def Bytes (w : World) (B : Nat) (v : Value) (l : List UInt8) : Prop := Row w B v (l.map U8)
section
variable {F : Nat → Prop} {w w' : World} {B B' : Nat} {v : Value} {l : List Value}
theorem Row.keep (h : Row w B v l) (hk : Keep F w w') (hF : ∀ k, k < B → ¬ F k) : Row w' B v l := by
 obtain ⟨A, c, rfl, h1, h2, h3⟩ := h
 refine ⟨A, c, rfl, h1, h2, fun hn => ?_⟩
 obtain ⟨b, off, rfl, hb, hc⟩ := h3 hn
 refine ⟨b, off, rfl, hb, fun i u hu => ?_⟩
 have := hc i u hu
 exact (hk.cell (lt_of_cell this) (hF b hb)).trans this
theorem Row.more (h : Row w B v l) (hB : B ≤ B') : Row w B' v l := by
 obtain ⟨A, c, rfl, h1, h2, h3⟩ := h
 exact ⟨A, c, rfl, h1, h2, fun hn => by obtain ⟨b, off, e, hb, hc⟩ := h3 hn; exact ⟨b, off, e, by omega, hc⟩⟩
theorem Row.ext (h : Row w B v l) (hk : Ext w w') : Row w' B v l := h.keep hk fun _ _ x => x
theorem Row.nil (w : World) (B : Nat) : Row w B (.slice none 0 0) [] := ⟨none, 0, rfl, by simp, by simp [maxLen], fun h => by simp at h⟩
end
theorem Bytes.keep {F : Nat → Prop} {w w' : World} {B : Nat} {v : Value} {l : List UInt8} (h : Bytes w B v l) (hk : Keep F w w') (hF : ∀ k, k < B → ¬ F k) : Bytes w' B v l := Row.keep h hk hF
theorem Bytes.ext {w w' : World} {B : Nat} {v : Value} {l : List UInt8} (h : Bytes w B v l) (hk : Ext w w') : Bytes w' B v l := Row.ext h hk
theorem Bytes.more {w : World} {B B' : Nat} {v : Value} {l : List UInt8} (h : Bytes w B v l) (hB : B ≤ B') : Bytes w B' v l := Row.more h hB
theorem Bytes.open_ {w : World} {B : Nat} {v : Value} {l : List UInt8} (h : Bytes w B v l) :
  ∃ A c, v = .slice A l.length c ∧ l.length ≤ c ∧ c ≤ maxLen ∧ (0 < l.length → ∃ b off, A = some ⟨b, off, none⟩ ∧ b < B ∧ ∀ i (hi : i < l.length), w.cell? ⟨b, off + i, none⟩ = some (U8 l[i])) := by
 obtain ⟨A, c, rfl, h1, h2, h3⟩ := h
 refine ⟨A, c, by simp, by simpa using h1, h2, fun hn => ?_⟩
 obtain ⟨b, off, e, hb, hc⟩ := h3 (by simpa using hn)
 exact ⟨b, off, e, hb, fun i hi => hc i _ (by simp [hi])⟩
def Bytess (w : World) (B : Nat) (v : Value) (ls : List (List UInt8)) : Prop :=
 ∃ vs : List Value, Row w B v vs ∧ vs.length = ls.length ∧ ∀ i (h : i < vs.length) (h' : i < ls.length), Bytes w B vs[i] ls[i]
theorem Bytess.ext {w w' : World} {B : Nat} {v : Value} {ls : List (List UInt8)} (h : Bytess w B v ls) (hk : Ext w w') : Bytess w' B v ls := by
 obtain ⟨vs, h1, h2, h3⟩ := h
 exact ⟨vs, h1.ext hk, h2, fun i a b => (h3 i a b).ext hk⟩
theorem Bytess.open_ {w : World} {B : Nat} {v : Value} {ls : List (List UInt8)} (h : Bytess w B v ls) :
  ∃ A c, v = .slice A ls.length c ∧ ls.length ≤ c ∧ c ≤ maxLen ∧ (0 < ls.length → ∃ b off, A = some ⟨b, off, none⟩ ∧ b < B ∧ ∀ i (hi : i < ls.length), ∃ u, w.cell? ⟨b, off + i, none⟩ = some u ∧ Bytes w B u ls[i]) := by
 obtain ⟨vs, ⟨A, c, rfl, h1, h2, h3⟩, hl, h4⟩ := h
 refine ⟨A, c, by rw [hl], by omega, h2, fun hn => ?_⟩
 obtain ⟨b, off, e, hb, hc⟩ := h3 (by omega)
 exact ⟨b, off, e, hb, fun i hi => ⟨vs[i], hc i _ (by simp [hl, hi]), h4 i (by omega) hi⟩⟩
theorem Bytes.at_ {w : World} {B : Nat} {A : Option Addr} {c n : Nat} {l : List UInt8} (h : Bytes w B (.slice A n c) l) {k : Nat} (hk : k < l.length) :
  ∃ b off, A = some ⟨b, off, none⟩ ∧ b < B ∧ w.cell? ⟨b, off + k, none⟩ = some (U8 l[k]) := by
 obtain ⟨A', c', e, _, _, h3⟩ := h.open_
 obtain ⟨b, off, e', hb, hc⟩ := h3 (by omega)
 injection e with e1 _ _
 exact ⟨b, off, e1.trans e', hb, hc k hk⟩
theorem Bytess.at_ {w : World} {B : Nat} {A : Option Addr} {c n : Nat} {ls : List (List UInt8)} (h : Bytess w B (.slice A n c) ls) {k : Nat} (hk : k < ls.length) :
  ∃ b off u, A = some ⟨b, off, none⟩ ∧ b < B ∧ w.cell? ⟨b, off + k, none⟩ = some u ∧ Bytes w B u ls[k] := by
 obtain ⟨A', c', e, _, _, h3⟩ := h.open_
 obtain ⟨b, off, e', hb, hc⟩ := h3 (by omega)
 injection e with e1 _ _
 obtain ⟨u, h1, h2⟩ := hc k hk
 exact ⟨b, off, u, e1.trans e', hb, h1, h2⟩
theorem take_succ_get {α : Type} (l : List α) (k : Nat) (h : k < l.length) : l.take (k + 1) = l.take k ++ [l[k]] := by
 rw [List.take_succ_eq_append_getElem h]
theorem Row.new {w : World} {B : Nat} {t : TypeId} {l : List Value} (hB : w.heap.size < B) (hl : l.length ≤ maxLen) (f : Nat × Nat := (0, 0)) : Row (w.alloc (.cells l.toArray t f)) B (.slice (some ⟨w.heap.size, 0, none⟩) l.length l.length) l :=
 ⟨_, _, rfl, Nat.le_refl _, hl, fun _ => ⟨w.heap.size, 0, rfl, hB, fun i u hu => by rw [cell_of_row _ _ _ _ _ _ (heap_alloc_new w _)]; simpa using hu⟩⟩
theorem Bytes.nil (w : World) (B : Nat) : Bytes w B (.slice none 0 0) [] := Row.nil w B
theorem Bytess.nil (w : World) (B : Nat) : Bytess w B (.slice none 0 0) [] := ⟨[], Row.nil w B, rfl, fun i h => by simp at h⟩
theorem Bytess.one {w : World} {B : Nat} {v u : Value} {l : List UInt8} (h : Row w B v [u]) (hu : Bytes w B u l) : Bytess w B v [l] :=
 ⟨[u], h, rfl, fun i h h' => by
  have : i = 0 := by simpa using h
  subst this
  exact hu⟩
theorem Bytess.two {w : World} {B : Nat} {v u u' : Value} {l l' : List UInt8} (h : Row w B v [u, u']) (hu : Bytes w B u l) (hu' : Bytes w B u' l') : Bytess w B v [l, l'] :=
 ⟨[u, u'], h, rfl, fun i h h' => by
  have : i = 0 ∨ i = 1 := by simp at h; omega
  rcases this with rfl | rfl
  ·exact hu
  ·exact hu'⟩
theorem hid {p : Prop} (h : p) : Hid p := h
theorem Row.cut {w : World} {B : Nat} {A : Option Addr} {c n : Nat} {l : List Value} (h : Row w B (.slice A n c) l) {lo hi : Nat} (h1 : lo ≤ hi) (h2 : hi ≤ l.length) :
  Row w B (.slice (if c = lo then A else A.map (·.add lo)) (hi - lo) (c - lo)) ((l.take hi).drop lo) := by
 obtain ⟨A', c', e, hlc, hcm, hrow⟩ := h
 injection e with e1 e2 e3
 subst e1 e3
 have hlen : ((l.take hi).drop lo).length = hi - lo := by simp; omega
 refine ⟨_, _, by rw [hlen], by omega, by omega, fun hn => ?_⟩
 rw [hlen] at hn
 obtain ⟨b, off, rfl, hb, hc⟩ := hrow (by omega)
 rw [if_neg (by omega)]
 refine ⟨b, off + lo, ?_, hb, fun i u hu => ?_⟩
 ·simp only [Option.map_some, Addr.add]
  split
  ·rename_i h0; subst h0; rfl
  ·rfl
 ·rw [Nat.add_assoc]
  apply hc
  rw [List.getElem?_drop] at hu
  have : lo + i < hi := by
   rcases Nat.lt_or_ge (lo + i) hi with h | h
   ·exact h
   ·rw [List.getElem?_eq_none (by simp; omega)] at hu; cases hu
  rw [List.getElem?_take_of_lt this] at hu
  exact hu
theorem Row.front {w : World} {B : Nat} {A : Option Addr} {c n : Nat} {l : List Value} (h : Row w B (.slice A n c) l) {hi : Nat} (h2 : hi ≤ l.length) : Row w B (.slice A hi c) (l.take hi) := by
 obtain ⟨A', c', e, hlc, hcm, hrow⟩ := h
 injection e with e1 e2 e3
 subst e1 e3
 refine ⟨A, c, by simp; omega, by simp; omega, hcm, fun hn => ?_⟩
 obtain ⟨b, off, e, hb, hc⟩ := hrow (by simp at hn; omega)
 refine ⟨b, off, e, hb, fun i u hu => hc i u ?_⟩
 rcases Nat.lt_or_ge i hi with h | h
 ·rw [List.getElem?_take_of_lt h] at hu; exact hu
 ·rw [List.getElem?_eq_none (by simp; omega)] at hu; cases hu
theorem Bytes.cut {w : World} {B : Nat} {A : Option Addr} {c n : Nat} {l : List UInt8} (h : Bytes w B (.slice A n c) l) {lo hi : Nat} (h1 : lo ≤ hi) (h2 : hi ≤ l.length) :
  Bytes w B (.slice (if c = lo then A else A.map (·.add lo)) (hi - lo) (c - lo)) ((l.take hi).drop lo) := by
 have := Row.cut h h1 (by simpa using h2)
 rw [← List.map_take, ← List.map_drop] at this
 exact this
theorem Bytes.front {w : World} {B : Nat} {A : Option Addr} {c n : Nat} {l : List UInt8} (h : Bytes w B (.slice A n c) l) {hi : Nat} (h2 : hi ≤ l.length) : Bytes w B (.slice A hi c) (l.take hi) := by
 have := Row.front h (hi := hi) (by simpa using h2)
 rw [← List.map_take] at this
 exact this
end Go.Proofs.YtihaliffcobacaaGreatDoor
namespace Go.Proofs.YtihaliffcobacaaGreatDoor
open Go.ChangeShapes Go.WideShapes Go.ChangeAt Go.RowKit
section
variable {H : Type} {enc : TypeId × Value → H} {P : Program} {W : World}
theorem add_cell {x : Addr} {i : Nat} (hx : x.spot = none) : x.add i = ⟨x.block, x.off + i, none⟩ := by
 cases x; simp at hx; subst hx
 unfold Addr.add
 split <;> simp_all
theorem spot_of_cell {x : Addr} {v : Value} (h : W.cell? x = some v) : x.spot = none := by
 unfold World.cell? at h
 split at h
 ·split at h
  ·cases h
  ·rename_i hs; simpa using hs
 ·cases h
theorem u8_of_wf {n : Int} (h : (Lit.int .u8 n).wf = true) : ∃ c : UInt8, n = (c.toNat : Int) := by
 have h1 : 0 ≤ n ∧ n ≤ 255 := by
  simp [Lit.wf, IntKind.has, IntKind.min, IntKind.max, IntKind.signed, IntKind.bits] at h
  omega
 refine ⟨UInt8.ofNat n.toNat, ?_⟩
 rw [UInt8.toNat_ofNat_of_lt' (by simp [UInt8.size]; omega)]
 omega
end
end Go.Proofs.YtihaliffcobacaaGreatDoor
namespace Go.Proofs.YtihaliffcobacaaGreatDoor
open Go.RowKit
abbrev BS := Nat → Prop
structure El (α : Type) where
 size : Nat
 rd : World → BS → List Value → α → Prop
structure El.Ok {α : Type} (E : El α) : Prop where
 pos : 0 < E.size
 len : ∀ {w S cs x}, E.rd w S cs x → cs.length = E.size
 one : ∀ {w S cs x}, E.rd w S cs x → ∀ u ∈ cs, u.oneCell' = true
 keep : ∀ {F w w' S cs x}, E.rd w S cs x → Keep F w w' → (∀ k, S k → ¬ F k) → E.rd w' S cs x
 more : ∀ {w S S' cs x}, E.rd w S cs x → (∀ k, k < w.heap.size → S k → S' k) → E.rd w S' cs x
def RowS (w : World) (S : BS) (sz : Nat) (v : Value) (n : Nat) (cs : List Value) : Prop :=
 cs.length = n * sz ∧ ∃ A c, v = .slice A n c ∧ n ≤ c ∧ c ≤ maxLen ∧
  (0 < n → ∃ b off, A = some ⟨b, off, none⟩ ∧ S b ∧ b < w.heap.size ∧ ∀ j u, cs[j]? = some u → w.cell? ⟨b, off + j, none⟩ = some u)
section
variable {F : Nat → Prop} {w w' : World} {S S' : BS} {sz n : Nat} {v : Value} {cs : List Value}
theorem RowS.keep (h : RowS w S sz v n cs) (hk : Keep F w w') (hF : ∀ k, S k → ¬ F k) : RowS w' S sz v n cs := by
 obtain ⟨h0, A, c, rfl, h1, h2, h3⟩ := h
 refine ⟨h0, A, c, rfl, h1, h2, fun hn => ?_⟩
 obtain ⟨b, off, rfl, hb, hlt, hc⟩ := h3 hn
 exact ⟨b, off, rfl, hb, Nat.lt_of_lt_of_le hlt hk.size, fun i u hu => (hk.cell hlt (hF b hb)).trans (hc i u hu)⟩
theorem RowS.more (h : RowS w S sz v n cs) (hS : ∀ k, k < w.heap.size → S k → S' k) : RowS w S' sz v n cs := by
 obtain ⟨h0, A, c, rfl, h1, h2, h3⟩ := h
 exact ⟨h0, A, c, rfl, h1, h2, fun hn => by obtain ⟨b, off, e, hb, hlt, hc⟩ := h3 hn; exact ⟨b, off, e, hS b hlt hb, hlt, hc⟩⟩
theorem RowS.ext (h : RowS w S sz v n cs) (hk : Ext w w') : RowS w' S sz v n cs := h.keep hk fun _ _ x => x
theorem RowS.nil (w : World) (S : BS) (sz : Nat) : RowS w S sz (.slice none 0 0) 0 [] := ⟨by simp, none, 0, rfl, by simp, by simp [maxLen], fun h => by simp at h⟩
theorem RowS.new {t : TypeId} (hn : cs.length = n * sz) (hl : n ≤ maxLen) (f : Nat × Nat := (0, 0)) : RowS (w.alloc (.cells cs.toArray t f)) (fun k => k = w.heap.size) sz (.slice (some ⟨w.heap.size, 0, none⟩) n n) n cs :=
 ⟨hn, _, _, rfl, Nat.le_refl _, hl, fun _ => ⟨w.heap.size, 0, rfl, rfl, by simp, fun i u hu => by rw [cell_of_row _ _ _ _ _ _ (heap_alloc_new w _)]; simpa using hu⟩⟩
theorem RowS.cut {A : Option Addr} {c : Nat} (h : RowS w S sz (.slice A n c) n cs) {lo hi : Nat} (h1 : lo ≤ hi) (h2 : hi ≤ n) :
  RowS w S sz (.slice (if c = lo then A else A.map (·.add (lo * sz))) (hi - lo) (c - lo)) (hi - lo) ((cs.take (hi * sz)).drop (lo * sz)) := by
 obtain ⟨h0, A', c', e, hlc, hcm, hrow⟩ := h
 injection e with e1 _ e3
 subst e1 e3
 have e1 : hi * sz ≤ cs.length := by rw [h0]; exact Nat.mul_le_mul_right _ h2
 have e2 : lo * sz ≤ hi * sz := Nat.mul_le_mul_right _ h1
 refine ⟨by rw [List.length_drop, List.length_take, Nat.min_eq_left e1, Nat.sub_mul], _, _, rfl, by omega, by omega, fun hn => ?_⟩
 obtain ⟨b, off, rfl, hb, hlt, hc⟩ := hrow (by omega)
 rw [if_neg (by omega)]
 refine ⟨b, off + lo * sz, ?_, hb, hlt, fun i u hu => ?_⟩
 ·simp only [Option.map_some, Addr.add]
  split
  ·rename_i h0; rw [h0]; rfl
  ·rfl
 ·rw [Nat.add_assoc]
  apply hc
  rw [List.getElem?_drop] at hu
  have : lo * sz + i < hi * sz := by
   rcases Nat.lt_or_ge (lo * sz + i) (hi * sz) with h | h
   ·exact h
   ·rw [List.getElem?_eq_none (by simp; omega)] at hu; cases hu
  rw [List.getElem?_take_of_lt this] at hu
  exact hu
theorem RowS.front {A : Option Addr} {c : Nat} (h : RowS w S sz (.slice A n c) n cs) {hi : Nat} (h2 : hi ≤ n) : RowS w S sz (.slice A hi c) hi (cs.take (hi * sz)) := by
 obtain ⟨h0, A', c', e, hlc, hcm, hrow⟩ := h
 injection e with e1 _ e3
 subst e1 e3
 have e1 : hi * sz ≤ cs.length := by rw [h0]; exact Nat.mul_le_mul_right _ h2
 refine ⟨by rw [List.length_take, Nat.min_eq_left e1], A, c, rfl, by omega, hcm, fun hn => ?_⟩
 obtain ⟨b, off, e, hb, hlt, hc⟩ := hrow (by omega)
 refine ⟨b, off, e, hb, hlt, fun i u hu => hc i u ?_⟩
 rcases Nat.lt_or_ge i (hi * sz) with h | h
 ·rw [List.getElem?_take_of_lt h] at hu; exact hu
 ·rw [List.getElem?_eq_none (by simp; omega)] at hu; cases hu
end
def Cells {α : Type} (E : El α) (w : World) (S : BS) : List Value → List α → Prop
 | cs, [] => cs = []
 | cs, x :: xs => ∃ c0 c1, cs = c0 ++ c1 ∧ E.rd w S c0 x ∧ Cells E w S c1 xs
section
variable {α : Type} {E : El α} (hE : E.Ok) {F : Nat → Prop} {w w' : World} {S S' : BS}
include hE
theorem Cells.len : ∀ {cs : List Value} {xs : List α}, Cells E w S cs xs → cs.length = xs.length * E.size
 | cs, [], h => by have : cs = [] := h; subst this; simp
 | cs, x :: xs, ⟨c0, c1, e, h0, h1⟩ => by subst e; rw [List.length_append, hE.len h0, Cells.len h1, List.length_cons, Nat.succ_mul, Nat.add_comm]
theorem Cells.one : ∀ {cs : List Value} {xs : List α}, Cells E w S cs xs → ∀ u ∈ cs, u.oneCell' = true
 | cs, [], h, u, hu => by have : cs = [] := h; subst this; cases hu
 | cs, x :: xs, ⟨c0, c1, e, h0, h1⟩, u, hu => by
  subst e
  rcases List.mem_append.1 hu with h | h
  ·exact hE.one h0 u h
  ·exact Cells.one h1 u h
theorem Cells.keep (hk : Keep F w w') (hF : ∀ k, S k → ¬ F k) : ∀ {cs : List Value} {xs : List α}, Cells E w S cs xs → Cells E w' S cs xs
 | _, [], h => h
 | _, _ :: _, ⟨c0, c1, e, h0, h1⟩ => ⟨c0, c1, e, hE.keep h0 hk hF, Cells.keep hk hF h1⟩
theorem Cells.more (hS : ∀ k, k < w.heap.size → S k → S' k) : ∀ {cs : List Value} {xs : List α}, Cells E w S cs xs → Cells E w S' cs xs
 | _, [], h => h
 | _, _ :: _, ⟨c0, c1, e, h0, h1⟩ => ⟨c0, c1, e, hE.more h0 hS, Cells.more hS h1⟩
omit hE in
theorem Cells.append : ∀ {cs ds : List Value} {xs ys : List α}, Cells E w S cs xs → Cells E w S ds ys → Cells E w S (cs ++ ds) (xs ++ ys)
 | cs, ds, [], ys, h, h' => by have : cs = [] := h; subst this; exact h'
 | _, _, _ :: _, _, ⟨c0, c1, e, h0, h1⟩, h' => ⟨c0, _, by rw [e, List.append_assoc], h0, Cells.append h1 h'⟩
omit hE in
theorem Cells.single {cs : List Value} {x : α} (h : E.rd w S cs x) : Cells E w S cs [x] := ⟨cs, [], by simp, h, rfl⟩
theorem Cells.split : ∀ {cs : List Value} {xs : List α} (k : Nat), k ≤ xs.length → Cells E w S cs xs → Cells E w S (cs.take (k * E.size)) (xs.take k) ∧ Cells E w S (cs.drop (k * E.size)) (xs.drop k)
 | cs, xs, 0, _, h => by simp; exact ⟨rfl, h⟩
 | cs, [], k + 1, hk, h => by simp at hk
 | cs, x :: xs, k + 1, hk, ⟨c0, c1, e, h0, h1⟩ => by
  subst e
  have hl := hE.len h0
  obtain ⟨a, b⟩ := Cells.split k (by simpa using hk) h1
  have e1 : (k + 1) * E.size = c0.length + k * E.size := by rw [hl, Nat.succ_mul, Nat.add_comm]
  rw [e1, List.take_length_add_append, List.drop_length_add_append]
  exact ⟨⟨c0, _, rfl, h0, a⟩, b⟩
theorem Cells.get {cs : List Value} {xs : List α} (h : Cells E w S cs xs) {k : Nat} (hk : k < xs.length) : ∃ c0, E.rd w S c0 xs[k] ∧ ∀ j u, c0[j]? = some u → cs[k * E.size + j]? = some u := by
 obtain ⟨_, b⟩ := Cells.split hE k (by omega) h
 rw [List.drop_eq_getElem_cons hk] at b
 obtain ⟨c0, c1, e, h0, _⟩ := b
 refine ⟨c0, h0, fun j u hu => ?_⟩
 rw [← List.getElem?_drop, e, List.getElem?_append_left (List.getElem?_eq_some_iff.1 hu).1, hu]
end
def Sl {α : Type} (E : El α) (w : World) (S : BS) (v : Value) (xs : List α) : Prop := ∃ cs, RowS w S E.size v xs.length cs ∧ Cells E w S cs xs
section
variable {α : Type} {E : El α} {F : Nat → Prop} {w w' : World} {S S' : BS} {v : Value} {xs : List α}
theorem Sl.keep (hE : E.Ok) (h : Sl E w S v xs) (hk : Keep F w w') (hF : ∀ k, S k → ¬ F k) : Sl E w' S v xs := by
 obtain ⟨cs, h1, h2⟩ := h; exact ⟨cs, h1.keep hk hF, h2.keep hE hk hF⟩
theorem Sl.ext (hE : E.Ok) (h : Sl E w S v xs) (hk : Ext w w') : Sl E w' S v xs := h.keep hE hk fun _ _ x => x
theorem Sl.more (hE : E.Ok) (h : Sl E w S v xs) (hS : ∀ k, k < w.heap.size → S k → S' k) : Sl E w S' v xs := by
 obtain ⟨cs, h1, h2⟩ := h; exact ⟨cs, h1.more hS, h2.more hE hS⟩
theorem Sl.nil (w : World) (S : BS) : Sl E w S (.slice none 0 0) [] := ⟨[], RowS.nil _ _ _, rfl⟩
theorem Sl.shape (h : Sl E w S v xs) : ∃ A c, v = .slice A xs.length c ∧ xs.length ≤ c ∧ c ≤ maxLen := by
 obtain ⟨cs, ⟨_, A, c, e, h1, h2, _⟩, _⟩ := h; exact ⟨A, c, e, h1, h2⟩
theorem Sl.at_ (hE : E.Ok) {A : Option Addr} {c n : Nat} (h : Sl E w S (.slice A n c) xs) {k : Nat} (hk : k < xs.length) :
  ∃ b off c0, A = some ⟨b, off, none⟩ ∧ S b ∧ b < w.heap.size ∧ E.rd w S c0 xs[k] ∧ ∀ j u, c0[j]? = some u → w.cell? ⟨b, off + k * E.size + j, none⟩ = some u := by
 obtain ⟨cs, ⟨_, A', c', e, _, _, hrow⟩, hc⟩ := h
 injection e with e1 _ _
 subst e1
 obtain ⟨b, off, e, hb, hlt, hcell⟩ := hrow (by omega)
 obtain ⟨c0, h0, h1⟩ := hc.get hE hk
 exact ⟨b, off, c0, e, hb, hlt, h0, fun j u hu => by rw [Nat.add_assoc]; exact hcell _ _ (h1 j u hu)⟩
theorem Sl.cut (hE : E.Ok) {A : Option Addr} {c n : Nat} (h : Sl E w S (.slice A n c) xs) {lo hi : Nat} (h1 : lo ≤ hi) (h2 : hi ≤ xs.length) :
  Sl E w S (.slice (if c = lo then A else A.map (·.add (lo * E.size))) (hi - lo) (c - lo)) ((xs.take hi).drop lo) := by
 obtain ⟨cs, hr, hc⟩ := h
 obtain ⟨_, e⟩ : True ∧ n = xs.length := by obtain ⟨_, A', c', e, _⟩ := hr; injection e with _ e _; exact ⟨trivial, e⟩
 subst e
 have hlen : ((xs.take hi).drop lo).length = hi - lo := by simp; omega
 refine ⟨_, ?_, ((hc.split hE hi h2).1.split hE lo (by simp; omega)).2⟩
 rw [hlen]
 exact hr.cut h1 h2
theorem Sl.front (hE : E.Ok) {A : Option Addr} {c n : Nat} (h : Sl E w S (.slice A n c) xs) {hi : Nat} (h2 : hi ≤ xs.length) : Sl E w S (.slice A hi c) (xs.take hi) := by
 obtain ⟨cs, hr, hc⟩ := h
 obtain ⟨_, e⟩ : True ∧ n = xs.length := by obtain ⟨_, A', c', e, _⟩ := hr; injection e with _ e _; exact ⟨trivial, e⟩
 subst e
 refine ⟨_, ?_, (hc.split hE hi h2).1⟩
 rw [List.length_take, Nat.min_eq_left h2]
 exact hr.front h2
end
def EU8 : El UInt8 := { size := 1, rd := fun _ _ cs x => cs = [U8 x] }
theorem EU8.ok : EU8.Ok where
 pos := by decide
 len := fun h => by subst h; rfl
 one := fun h u hu => by subst h; simp at hu; subst hu; rfl
 keep := fun h _ _ => h
 more := fun h _ => h
abbrev BytesS (w : World) (S : BS) (v : Value) (l : List UInt8) : Prop := Sl EU8 w S v l
def ESl {α : Type} (E : El α) : El (List α) := { size := 1, rd := fun w S cs xs => ∃ v, cs = [v] ∧ Sl E w S v xs }
theorem ESl.ok {α : Type} {E : El α} (hE : E.Ok) : (ESl E).Ok where
 pos := by show 0 < 1; decide
 len := fun ⟨v, h, _⟩ => by subst h; rfl
 one := fun ⟨v, h, hs⟩ u hu => by
  subst h
  obtain ⟨A, c, rfl, _⟩ := hs.shape
  simp at hu; subst hu; rfl
 keep := fun ⟨v, h, hs⟩ hk hF => ⟨v, h, hs.keep hE hk hF⟩
 more := fun ⟨v, h, hs⟩ hS => ⟨v, h, hs.more hE hS⟩
theorem U8_cells {w : World} {S : BS} : ∀ (l : List UInt8), Cells EU8 w S (l.map U8) l
 | [] => rfl
 | x :: l => ⟨[U8 x], l.map U8, rfl, rfl, U8_cells l⟩
theorem cells_U8 {w : World} {S : BS} : ∀ {cs : List Value} {l : List UInt8}, Cells EU8 w S cs l → cs = l.map U8
 | _, [], h => h
 | _, x :: l, ⟨c0, c1, e, h0, h1⟩ => by
  have h0 : c0 = [U8 x] := h0
  rw [e, h0, cells_U8 h1]; rfl
theorem bytesS_at {w : World} {S : BS} {A : Option Addr} {c n : Nat} {l : List UInt8} (h : BytesS w S (.slice A n c) l) {k : Nat} (hk : k < l.length) :
  ∃ b off, A = some ⟨b, off, none⟩ ∧ S b ∧ b < w.heap.size ∧ w.cell? ⟨b, off + k, none⟩ = some (U8 l[k]) := by
 obtain ⟨b, off, c0, e, hb, hlt, h0, h1⟩ := h.at_ EU8.ok hk
 have h0 : c0 = [U8 l[k]] := h0
 refine ⟨b, off, e, hb, hlt, ?_⟩
 have := h1 0 _ (by rw [h0]; rfl)
 simpa [EU8] using this
end Go.Proofs.YtihaliffcobacaaGreatDoor
namespace Go.Proofs.YtihaliffcobacaaGreatDoor
open Go.ChangeShapes Go.WideShapes Go.ChangeAt Go.RowKit Go.Deep
theorem cells_build {α : Type} {E : El α} (hE : E.Ok) {w : World} {S : BS} {b off : Nat} : ∀ (n : Nat), (∀ i, i < n → ∃ (x : α) (c0 : List Value), E.rd w S c0 x ∧ ∀ j u, c0[j]? = some u → w.cell? ⟨b, off + (i * E.size + j), none⟩ = some u) →
  ∃ (l : List α) (cs : List Value), l.length = n ∧ Cells E w S cs l ∧ ∀ k u, cs[k]? = some u → w.cell? ⟨b, off + k, none⟩ = some u
 | 0, _ => ⟨[], [], rfl, rfl, fun k u h => by simp at h⟩
 | n + 1, h => by
  obtain ⟨l, cs, hl, hc, hk⟩ := cells_build hE n fun i hi => h i (by omega)
  obtain ⟨x, c0, hx, h0⟩ := h n (by omega)
  refine ⟨l ++ [x], cs ++ c0, by simp [hl], hc.append (Cells.single hx), fun k u hu => ?_⟩
  have hcl := hc.len hE
  rcases Nat.lt_or_ge k cs.length with h1 | h1
  ·rw [List.getElem?_append_left h1] at hu; exact hk k u hu
  ·rw [List.getElem?_append_right h1] at hu
   have := h0 _ u hu
   rwa [show n * E.size + (k - cs.length) = k from by rw [hcl, hl] at h1 ⊢; omega] at this
section
variable {H : Type} {enc : TypeId × Value → H} {P : Program} {W : World}
end
end Go.Proofs.YtihaliffcobacaaGreatDoor
namespace Go.Proofs.YtihaliffcobacaaGreatDoor
open Go.ChangeShapes Go.WideShapes Go.ChangeAt Go.RowKit Go.Deep
def EInt (k : IntKind) : El Int := { size := 1, rd := fun _ _ cs x => cs = [.int k x] }
theorem EInt.ok (k : IntKind) : (EInt k).Ok where
 pos := by show 0 < 1; decide
 len := fun h => by have h := h; subst h; rfl
 one := fun h u hu => by subst h; simp at hu; subst hu; rfl
 keep := fun h _ _ => h
 more := fun h _ => h
def EBool : El Bool := { size := 1, rd := fun _ _ cs x => cs = [.bool x] }
theorem EBool.ok : EBool.Ok where
 pos := by decide
 len := fun h => by subst h; rfl
 one := fun h u hu => by subst h; simp at hu; subst hu; rfl
 keep := fun h _ _ => h
 more := fun h _ => h
def EStr : El ByteArray := { size := 1, rd := fun _ _ cs x => cs = [.string x] }
theorem EStr.ok : EStr.Ok where
 pos := by decide
 len := fun h => by subst h; rfl
 one := fun h u hu => by subst h; simp at hu; subst hu; rfl
 keep := fun h _ _ => h
 more := fun h _ => h
def EPair {α β : Type} (E : El α) (F : El β) : El (α × β) := { size := E.size + F.size, rd := fun w S cs x => ∃ c1 c2, cs = c1 ++ c2 ∧ E.rd w S c1 x.1 ∧ F.rd w S c2 x.2 }
theorem EPair.ok {α β : Type} {E : El α} {F : El β} (hE : E.Ok) (hF : F.Ok) : (EPair E F).Ok where
 pos := by show 0 < E.size + F.size; have := hE.pos; omega
 len := fun ⟨c1, c2, h, h1, h2⟩ => by subst h; rw [List.length_append, hE.len h1, hF.len h2]; rfl
 one := fun ⟨c1, c2, h, h1, h2⟩ u hu => by
  subst h
  rcases List.mem_append.1 hu with hu | hu
  ·exact hE.one h1 u hu
  ·exact hF.one h2 u hu
 keep := fun ⟨c1, c2, h, h1, h2⟩ hk hF' => ⟨c1, c2, h, hE.keep h1 hk hF', hF.keep h2 hk hF'⟩
 more := fun ⟨c1, c2, h, h1, h2⟩ hS => ⟨c1, c2, h, hE.more h1 hS, hF.more h2 hS⟩
section
variable {H : Type} {enc : TypeId × Value → H} {P : Program} {W : World} {spare : Nat → Bool} {held : Bool}
def Fits (P : Program) (t : TypeId) (d : DataW H) : Prop := ∀ n ∈ d.weights P t, n ≤ reachBytes
theorem weightsAll_mem {e : TypeId} {n : Nat} : ∀ {ds : List (DataW H)} {d : DataW H}, d ∈ ds → n ∈ d.weights P e → n ∈ DataW.weightsAll P e ds
 | d :: r, x, hx, hn => by
  rw [DataW.weightsAll]
  rcases List.mem_cons.1 hx with rfl | hx
  ·exact List.mem_append_left _ hn
  ·exact List.mem_append_right _ (weightsAll_mem hx hn)
theorem weightsEach_mem {n : Nat} : ∀ {ts : List TypeId} {ds : List (DataW H)} {i : Nat} {t : TypeId} {d : DataW H}, ts[i]? = some t → ds[i]? = some d → n ∈ d.weights P t → n ∈ DataW.weightsEach P ts ds
 | t :: ts, d :: ds, 0, t', d', ht, hd, hn => by
  simp at ht hd; subst ht hd
  rw [DataW.weightsEach]; exact List.mem_append_left _ hn
 | t :: ts, d :: ds, i + 1, t', d', ht, hd, hn => by
  rw [DataW.weightsEach]; exact List.mem_append_right _ (weightsEach_mem (by simpa using ht) (by simpa using hd) hn)
theorem Fits.of_all {ts : List TypeId} {ds : List (DataW H)} (h : (DataW.weightsEach P ts ds).all (· ≤ reachBytes) = true) {i : Nat} {t : TypeId} {d : DataW H} (ht : ts[i]? = some t) (hd : ds[i]? = some d) : Fits P t d := fun n hn => by
 have := List.all_eq_true.1 h n (weightsEach_mem ht hd hn)
 simpa using this
structure Opens {α : Type} (E : El α) (enc : TypeId × Value → H) (P : Program) (W : World) (spare : Nat → Bool) (held : Bool) (t : TypeId) (Q : α → Prop) : Prop where
 size : P.cellsOf t = E.size
 op : ∀ (fuel : Nat) (cs : List Value) (y : DataW H × List MemPlace), DataW.trod enc P W 0 spare held fuel t cs = some y → Fits P t y.1 → ∃ x, E.rd W (fun k => k < W.heap.size) cs x ∧ Q x
theorem Opens.map {α β : Type} {E : El α} {F : El β} {t : TypeId} {Q : α → Prop} {R : β → Prop} (h : Opens E enc P W spare held t Q) (hs : F.size = E.size) (f : α → β) (hrd : ∀ w S cs x, E.rd w S cs x → F.rd w S cs (f x)) (hQ : ∀ x, Q x → R (f x)) : Opens F enc P W spare held t R :=
 ⟨h.size.trans hs.symm, fun fuel cs y hy hf => by obtain ⟨x, h1, h2⟩ := h.op fuel cs y hy hf; exact ⟨f x, hrd _ _ _ _ h1, hQ _ h2⟩⟩
theorem opens_int {t : TypeId} {k : IntKind} (ht : P.underlying t = some (.int k)) (hc : P.cellsOf t = 1) : Opens (EInt k) enc P W spare held t (fun x => (Lit.int k x).wf = true) :=
 ⟨hc, fun fuel cs y hy _ => by obtain ⟨n, h1, _, h3⟩ := DataW.trod_int ht hy; exact ⟨n, h1, h3⟩⟩
theorem opens_u8 {t : TypeId} (ht : P.underlying t = some (.int .u8)) (hc : P.cellsOf t = 1) : Opens EU8 enc P W spare held t (fun _ => True) :=
 ⟨hc, fun fuel cs y hy _ => by obtain ⟨n, h1, _, h3⟩ := DataW.trod_int ht hy; obtain ⟨c, rfl⟩ := u8_of_wf h3; exact ⟨c, h1, trivial⟩⟩
theorem opens_bool {t : TypeId} (ht : P.underlying t = some .bool) (hc : P.cellsOf t = 1) : Opens EBool enc P W spare held t (fun _ => True) :=
 ⟨hc, fun fuel cs y hy _ => by obtain ⟨b, h1, _⟩ := DataW.trod_bool ht hy; exact ⟨b, h1, trivial⟩⟩
theorem opens_str {t : TypeId} (ht : P.underlying t = some .string) (hc : P.cellsOf t = 1) : Opens EStr enc P W spare held t (fun s => s.size ≤ reachBytes) :=
 ⟨hc, fun fuel cs y hy hf => by
  obtain ⟨s, h1, h2, _⟩ := DataW.trod_string ht hy
  subst h2
  exact ⟨s, h1, hf s.size (by simp [DataW.weights])⟩⟩
theorem sl_opens {α : Type} {E : El α} (hE : E.Ok) {t e : TypeId} {Q : α → Prop} (ht : P.underlying t = some (.slice e)) (h : Opens E enc P W spare held e Q) {fuel : Nat} {v : Value} {y : DataW H × List MemPlace}
  (hy : DataW.trod enc P W 0 spare held fuel t [v] = some y) (hf : Fits P t y.1) : ∃ l : List α, Sl E W (fun k => k < W.heap.size) v l ∧ l.length * P.bytesOf e ≤ reachBytes ∧ ∀ x ∈ l, Q x := by
 rcases open_slice ht hy with ⟨h0, _⟩ | ⟨x, len, cap, m, n, D, Pl, hcs, _, hl, hm, hmm, hd, hi⟩
 ·obtain rfl : v = .slice none 0 0 := by simpa using h0
  exact ⟨[], Sl.nil _ _, by simp, by simp⟩
 ·obtain rfl : v = .slice (some x) len cap := by simpa using hcs
  subst hd
  have hlen : len ≤ m := by rw [hmm]; split <;> omega
  have hpos := hE.pos
  have hC := h.size
  have hw : ∀ n', n' ∈ DataW.weights P t (DataW.slice ((List.range len).map D) ((List.range (m - len)).map fun j => D (len + j))) ↔ n' ∈ ((((List.range len).map D).length * P.bytesOf e + ((List.range (m - len)).map fun j => D (len + j)).length * P.bytesOf e) :: (DataW.weightsAll P e ((List.range len).map D) ++ DataW.weightsAll P e ((List.range (m - len)).map fun j => D (len + j)))) := fun n' => by
   rw [DataW.weights, ht]; simp [Nat.add_mul]
  have key : ∀ i, i < len → ∃ (z : α) (c0 : List Value), (E.rd W (fun k => k < W.heap.size) c0 z ∧ Q z) ∧ ∀ j, j < E.size → W.cell? (x.add (i * E.size + j)) = c0[j]? := fun i hil => by
   obtain ⟨cs', hc, ht'⟩ := hi i (by omega)
   rw [hC] at hc
   obtain ⟨_, hcl, hat⟩ := World.cells?_some hc
   obtain ⟨z, hz, hq⟩ := h.op n cs' _ ht' (fun n' hn' => hf n' ((hw n').2 (List.mem_cons_of_mem _ (List.mem_append_left _ (weightsAll_mem (List.mem_map.2 ⟨i, List.mem_range.2 hil, rfl⟩) hn')))))
   exact ⟨z, cs', ⟨hz, hq⟩, fun j hj => by rw [← add_add]; exact hat j hj⟩
  have hbytes : len * P.bytesOf e ≤ reachBytes := by
   have := hf _ ((hw _).2 List.mem_cons_self)
   simp at this
   exact Nat.le_trans (Nat.le_add_right _ _) this
  rcases Nat.eq_zero_or_pos len with h0 | h0
  ·subst h0
   exact ⟨[], ⟨[], ⟨by simp, some x, cap, rfl, by simp, hm, fun h => by simp at h⟩, rfl⟩, by simp, by simp⟩
  ·obtain ⟨y0, c0, ⟨hr0, _⟩, hc0⟩ := key 0 h0
   have hl0 := hE.len hr0
   have hcell0 : W.cell? (x.add (0 * E.size + 0)) = some (c0[0]'(by omega)) := by rw [hc0 0 hpos]; exact List.getElem?_eq_getElem _
   have hsp := spot_of_cell (by simpa [Addr.add] using hcell0)
   obtain ⟨b, off, sp⟩ := x
   simp at hsp
   subst hsp
   have hadd : ∀ k, (⟨b, off, none⟩ : Addr).add k = ⟨b, off + k, none⟩ := fun k => add_cell rfl
   have hlt := lt_of_cell (by rw [hadd] at hcell0; exact hcell0)
   let E' : El { z : α // Q z } := { size := E.size, rd := fun w S cs z => E.rd w S cs z.1 }
   have hE' : E'.Ok := ⟨hE.pos, fun h => hE.len h, fun h => hE.one h, fun h => hE.keep h, fun h => hE.more h⟩
   obtain ⟨l, cs, hll, hcc, hcell⟩ := cells_build (E := E') (w := W) (S := fun k => k < W.heap.size) (b := b) (off := off) hE' len fun i hi => by
    obtain ⟨z, c1, ⟨hr, hq⟩, hc⟩ := key i hi
    refine ⟨⟨z, hq⟩, c1, hr, fun j u hu => ?_⟩
    have hj : j < E.size := by have := hE.len hr; have := (List.getElem?_eq_some_iff.1 hu).1; omega
    have := hc j hj
    rw [hadd, hu] at this
    exact this
   have hcc2 : ∀ {cs : List Value} {l : List { z : α // Q z }}, Cells E' W (fun k => k < W.heap.size) cs l → Cells E W (fun k => k < W.heap.size) cs (l.map (·.1)) := by
    intro cs l
    induction l generalizing cs with
    | nil => exact fun h => h
    | cons z l ih => rintro ⟨c0, c1, e, h0, h1⟩; exact ⟨c0, c1, e, h0, ih h1⟩
   refine ⟨l.map (·.1), ⟨cs, ?_, hcc2 hcc⟩, by rw [List.length_map, hll]; exact hbytes, fun x hx => by obtain ⟨z, _, rfl⟩ := List.mem_map.1 hx; exact z.2⟩
   rw [List.length_map]
   exact ⟨hcc.len hE', some ⟨b, off, none⟩, cap, by rw [hll], by omega, hm, fun _ => ⟨b, off, rfl, hlt, hlt, fun j u hu => hcell j u hu⟩⟩
theorem opens_slice {α : Type} {E : El α} (hE : E.Ok) {t e : TypeId} {Q : α → Prop} (ht : P.underlying t = some (.slice e)) (hc : P.cellsOf t = 1) (h : Opens E enc P W spare held e Q) : Opens (ESl E) enc P W spare held t (fun l => l.length * P.bytesOf e ≤ reachBytes ∧ ∀ x ∈ l, Q x) :=
 ⟨hc, fun fuel cs y hy hf => by
  have hv : ∃ v, cs = [v] := by
   rcases open_slice ht hy with ⟨h0, _⟩ | ⟨x, len, cap, m, n, D, Pl, hcs, _⟩
   ·exact ⟨_, h0⟩
   ·exact ⟨_, hcs⟩
  obtain ⟨v, rfl⟩ := hv
  obtain ⟨l, h1, h2⟩ := sl_opens hE ht h hy hf
  exact ⟨l, ⟨v, rfl, h1⟩, h2⟩⟩
def FOp {α : Type} (E : El α) (enc : TypeId × Value → H) (P : Program) (W : World) (spare : Nat → Bool) (held : Bool) (fs : List Field) (off : Nat) (Q : α → Prop) : Prop :=
 ∀ (n : Nat) (cs : List Value) (ys : List (DataW H × List MemPlace)), cs.length = off + E.size → ys.length = fs.length →
  (∀ (i : Nat) (f : Field), fs[i]? = some f → DataW.trod enc P W 0 spare held n f.type ((cs.drop f.offset).take (P.cellsOf f.type)) = ys[i]?) → (∀ (i : Nat) (f : Field) y, fs[i]? = some f → ys[i]? = some y → Fits P f.type y.1) →
  ∃ x, E.rd W (fun k => k < W.heap.size) (cs.drop off) x ∧ Q x
theorem fop_one {α : Type} {E : El α} {f : Field} {off : Nat} {Q : α → Prop} (ho : f.offset = off) (h : Opens E enc P W spare held f.type Q) : FOp E enc P W spare held [f] off Q := by
 intro n cs ys hl hy ht hf
 obtain ⟨y, rfl⟩ : ∃ y, ys = [y] := by
  match ys, hy with
  | [y], _ => exact ⟨y, rfl⟩
 have := ht 0 f rfl
 rw [ho, h.size, List.take_of_length_le (by simp; omega)] at this
 exact h.op n _ y this (hf 0 f y rfl rfl)
theorem fop_cons {α β : Type} {E : El α} {F : El β} {f : Field} {fs : List Field} {off : Nat} {Q : α → Prop} {R : β → Prop} (ho : f.offset = off) (h : Opens E enc P W spare held f.type Q) (hr : FOp F enc P W spare held fs (off + E.size) R) :
  FOp (EPair E F) enc P W spare held (f :: fs) off (fun x => Q x.1 ∧ R x.2) := by
 intro n cs ys hl hy ht hf
 obtain ⟨y, zs, rfl⟩ : ∃ y zs, ys = y :: zs := by
  match ys, hy with
  | y :: zs, _ => exact ⟨y, zs, rfl⟩
 have hl' : cs.length = off + (E.size + F.size) := hl
 have h0 := ht 0 f rfl
 rw [ho, h.size] at h0
 obtain ⟨x1, r1, q1⟩ := h.op n _ y h0 (hf 0 f y rfl rfl)
 obtain ⟨x2, r2, q2⟩ := hr n cs zs (by omega) (by simpa using hy) (fun i g hg => by have := ht (i + 1) g (by simpa using hg); simpa using this) (fun i g z hg hz => hf (i + 1) g z (by simpa using hg) (by simpa using hz))
 refine ⟨(x1, x2), ⟨(cs.drop off).take E.size, cs.drop (off + E.size), ?_, r1, r2⟩, q1, q2⟩
 rw [← List.drop_drop, List.take_append_drop]
theorem opens_struct {α : Type} {E : El α} {t : TypeId} {fs : Array Field} {Q : α → Prop} (ht : P.underlying t = some (.struct fs)) (hc : P.cellsOf t = E.size) (h : FOp E enc P W spare held fs.toList 0 Q) : Opens E enc P W spare held t Q :=
 ⟨hc, fun fuel cs y hy hf => by
  obtain ⟨ys, n, _, hyd, hl, hyl, hfl⟩ := DataW.trod_struct ht hy
  subst hyd
  have hw : ∀ n', n' ∈ DataW.weights P t (DataW.agg (ys.map (·.1))) ↔ n' ∈ DataW.weightsEach P (fs.toList.map (·.type)) (ys.map (·.1)) := fun n' => by rw [DataW.weights, ht]
  have := h n cs ys (by rw [hl, hc]; omega) (by simpa using hyl) (fun i f hi => hfl i f (by simpa using hi)) (fun i f z hi hz n' hn' => hf n' ((hw n').2 (weightsEach_mem (i := i) (by simp [hi]) (by simp [hz]) hn')))
  simpa using this⟩
end
end Go.Proofs.YtihaliffcobacaaGreatDoor
