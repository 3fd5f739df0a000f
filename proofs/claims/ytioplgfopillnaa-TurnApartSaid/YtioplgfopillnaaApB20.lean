/- PathAid: laid together. -/
import Derived.Test.YtioplgfopillnaaApB15
import Derived.Test.YtioplgfopillnaaApB17
import Derived.Test.YtioplgfopillnaaApB18
import Derived.Test.YtioplgfopillnaaApB8
import Derived.Test.YtioplgfopillnaaApB19
/- Words for the walks of chapter 03. -/
set_option linter.unusedSimpArgs false
set_option linter.unusedVariables false
namespace Go.Proofs.Ytioplgfopillnaa
open Go.RowKit
theorem TVat.vat {w : World} {a : Nat} {u : Value} {v : V} (h : TVat w a u v) : VAt w (fun _ => True) u v := by
  obtain ⟨lv, ov, rfl, h⟩ := h
  exact TV_at h fun _ _ _ => trivial
theorem GetIs.val {w w' : World} {y : V} {e : Ending} (h : GetIs w (some y) e w') : ∃ u, e = .returned (.tuple #[u, .int .u16 0]) ∧ VAt w' (fun _ => True) u y ∧ Ext w w' := by
  obtain ⟨u, h1, h2, h3⟩ := h
  exact ⟨u, h1, h2.vat, h3⟩
/-- A value, its form in sight. -/
def ValF (w : World) (S : BS) (u : Value) (y : V) : Prop := ∃ A c A' c', u = .agg #[U8 y.kind, .int .i64 y.n, .string y.s, .slice A y.l.length c, .slice A' y.o.length c'] ∧ VAt w S u y
theorem VAt.form {w : World} {S : BS} {u : Value} {y : V} (h : VAt w S u y) : ValF w S u y := by
  obtain ⟨lv, ov, rfl, h1, h2⟩ := h
  obtain ⟨A, c, rfl, _⟩ := h1.shape
  obtain ⟨A', c', rfl, _⟩ := h2.shape
  exact ⟨A, c, A', c', rfl, _, _, rfl, h1, h2⟩
theorem ValF.ext {w w' : World} {S : BS} {u : Value} {y : V} (h : ValF w S u y) (he : Ext w w') : ValF w' S u y := by
  obtain ⟨A, c, A', c', h1, h2⟩ := h
  exact ⟨A, c, A', c', h1, h2.ext he⟩
/-- What a call that hands back a value and an error leaves, the data in blocks from n on, below m. -/
def OutV (y : V) (n m : Nat) (v : Value) (w : World) : Prop := ∃ u, v = .tuple #[u, .int .u16 0] ∧ ValF w (fun q => n ≤ q ∧ q < m) u y
theorem OutV.ext {y : V} {n m : Nat} {v : Value} {w w' : World} (h : OutV y n m v w) (he : Ext w w') : OutV y n m v w' := by
  obtain ⟨u, h1, h2⟩ := h
  exact ⟨u, h1, h2.ext he⟩
/-- A new box at n. -/
def BoxP (n m : Nat) (v : Value) (w : World) : Prop := v = .pointer (some ⟨n, 0, none⟩) ∧ n < m ∧ Blk w n TVAL #[.int .u8 0, .int .i64 0, .string ⟨#[]⟩, .slice none 0 0, .slice none 0 0]
theorem BoxP.ext {n m : Nat} {v : Value} {w w' : World} (h : BoxP n m v w) (he : Ext w w') : BoxP n m v w' := ⟨h.1, h.2.1, h.2.2.keep he id⟩
theorem get_out {x y : V} {p : List St} {w w' : World} {e : Ending} (hy : getV x p = some y) (h : GetIs w (getV x p) e w') : ∃ v, e = .returned v ∧ Ext w w' ∧ OutV y w.heap.size w'.heap.size v w' := by
  rw [hy] at h
  obtain ⟨u, rfl, ⟨lv, ov, rfl, htv⟩, hE⟩ := h
  exact ⟨_, rfl, hE, _, rfl, VAt.form (TV_at htv fun q h1 h2 => ⟨h1, h2⟩)⟩
theorem put_out {r : Option V} {y : V} {w w' : World} {e : Ending} (hy : r = some y) (h : PutIs w r e w') : ∃ v, e = .returned v ∧ Ext w w' ∧ OutV y w.heap.size w'.heap.size v w' := by
  rw [hy] at h
  obtain ⟨u, rfl, hva, hE⟩ := h
  exact ⟨_, rfl, hE, _, rfl, VAt.form (hva.more fun q h1 h2 => ⟨h2, h1⟩)⟩
/-- The box filled: the world behind. -/
abbrev fillW (w : World) (g : Nat) (a b c d e : Value) : World := ((((w.setCell ⟨g, 0, none⟩ a).setCell ⟨g, 1, none⟩ b).setCell ⟨g, 2, none⟩ c).setCell ⟨g, 3, none⟩ d).setCell ⟨g, 4, none⟩ e
theorem fill_facts {w0 w : World} {g n m k : Nat} {y : V} {A A' : Option Addr} {c c' : Nat} (hE : Ext w0 w) (hg : w0.heap.size ≤ g) (hb : Blk w g TVAL #[.int .u8 0, .int .i64 0, .string ⟨#[]⟩, .slice none 0 0, .slice none 0 0])
    (hv : VAt w (fun q => n ≤ q ∧ q < m) (.agg #[U8 y.kind, .int .i64 y.n, .string y.s, .slice A y.l.length c, .slice A' y.o.length c']) y) (hgk : g < k) (hap : k ≤ n ∨ m ≤ g) :
    Ext w0 (fillW w g (U8 y.kind) (.int .i64 y.n) (.string y.s) (.slice A y.l.length c) (.slice A' y.o.length c')) ∧
    Blk (fillW w g (U8 y.kind) (.int .i64 y.n) (.string y.s) (.slice A y.l.length c) (.slice A' y.o.length c')) g TVAL #[U8 y.kind, .int .i64 y.n, .string y.s, .slice A y.l.length c, .slice A' y.o.length c'] ∧
    VAt (fillW w g (U8 y.kind) (.int .i64 y.n) (.string y.s) (.slice A y.l.length c) (.slice A' y.o.length c')) (fun _ => True) (.agg #[U8 y.kind, .int .i64 y.n, .string y.s, .slice A y.l.length c, .slice A' y.o.length c']) y := by
  have hk : Keep (· = g) w (fillW w g (U8 y.kind) (.int .i64 y.n) (.string y.s) (.slice A y.l.length c) (.slice A' y.o.length c')) := set5_keep w g 0 _ _ _ _ _
  exact ⟨hE.trans hk fun q hq e => by omega, set5_to hb rfl _ _ _ _ _, (hv.keep hk fun q hq e => by omega).more fun _ _ _ => trivial⟩
/-- A call of Build leaves a sound value. -/
def BuiltV (_ _ : Nat) (v : Value) (w : World) : Prop := ∃ b : V, SV b ∧ b.size ≤ 241 ∧ ∃ A c A' c', v = .agg #[U8 b.kind, .int .i64 b.n, .string b.s, .slice A b.l.length c, .slice A' b.o.length c'] ∧ VAt w (fun _ => True) v b
theorem BuiltV.ext {n m : Nat} {v : Value} {w w' : World} (h : BuiltV n m v w) (he : Ext w w') : BuiltV n m v w' := by
  obtain ⟨b, h1, h2, A, c, A', c', h3, h4⟩ := h
  exact ⟨b, h1, h2, A, c, A', c', h3, h4.ext he⟩
/-- What a call of Put at p in x leaves: the value put into is some sound one. -/
def PutV (x : V) (p : List St) (n m : Nat) (v : Value) (w : World) : Prop := ∃ b z : V, SV b ∧ b.size ≤ 241 ∧ putV x p b = some z ∧ ∃ A c A' c', v = .tuple #[.agg #[U8 z.kind, .int .i64 z.n, .string z.s, .slice A z.l.length c, .slice A' z.o.length c'], .int .u16 0] ∧ VAt w (fun q => n ≤ q ∧ q < m) (.agg #[U8 z.kind, .int .i64 z.n, .string z.s, .slice A z.l.length c, .slice A' z.o.length c']) z
theorem PutV.ext {x : V} {p : List St} {n m : Nat} {v : Value} {w w' : World} (h : PutV x p n m v w) (he : Ext w w') : PutV x p n m v w' := by
  obtain ⟨b, z, h1, h2, h3, A, c, A', c', h4, h5⟩ := h
  exact ⟨b, z, h1, h2, h3, A, c, A', c', h4, h5.ext he⟩
theorem put_putV {x b y : V} {p : List St} {w w' : World} {e : Ending} (h1 : SV b) (h2 : b.size ≤ 241) (hy : putV x p b = some y) (h : PutIs w (putV x p b) e w') : ∃ v, e = .returned v ∧ Ext w w' ∧ PutV x p w.heap.size w'.heap.size v w' := by
  obtain ⟨v, h3, h4, u, rfl, A, c, A', c', rfl, h5⟩ := put_out hy h
  exact ⟨_, h3, h4, b, y, h1, h2, hy, A, c, A', c', rfl, h5⟩
/-- A new box, from block k on. -/
def BoxQ (k : Nat) (n m : Nat) (v : Value) (w : World) : Prop := k ≤ n ∧ BoxP n m v w
theorem BoxQ.ext {k n m : Nat} {v : Value} {w w' : World} (h : BoxQ k n m v w) (he : Ext w w') : BoxQ k n m v w' := ⟨h.1, h.2.ext he⟩
/-- The box filled with what Put left. -/
theorem PutV.fill {x : V} {p : List St} {w0 w : World} {n m g k : Nat} {a0 a1 a2 a3 a4 : Value} (hE : Ext w0 w) (hb : BoxQ w0.heap.size g k (.pointer (some ⟨g, 0, none⟩)) w) (hv : PutV x p n m (.tuple #[.agg #[a0, a1, a2, a3, a4], .int .u16 0]) w) (hap : k ≤ n ∨ m ≤ g) :
    Ext w0 (fillW w g a0 a1 a2 a3 a4) ∧ Blk (fillW w g a0 a1 a2 a3 a4) g TVAL #[a0, a1, a2, a3, a4] ∧ ∃ b z : V, SV b ∧ b.size ≤ 241 ∧ putV x p b = some z ∧ VAt (fillW w g a0 a1 a2 a3 a4) (fun _ => True) (.agg #[a0, a1, a2, a3, a4]) z := by
  obtain ⟨b, z, h1, h2, h3, A, c, A', c', h4, h5⟩ := hv
  simp only [Value.tuple.injEq, Array.mk.injEq, List.cons.injEq, Value.agg.injEq, and_true] at h4
  obtain ⟨rfl, rfl, rfl, rfl, rfl⟩ := h4
  obtain ⟨h6, h7, h8⟩ := fill_facts hE hb.1 hb.2.2.2 h5 hb.2.2.1 hap
  exact ⟨h6, h7, b, z, h1, h2, h3, h8⟩
/-- The box filled with what a call left. -/
theorem OutV.fill {y : V} {w0 w : World} {n m g k : Nat} {a0 a1 a2 a3 a4 : Value} (hE : Ext w0 w) (hb : BoxQ w0.heap.size g k (.pointer (some ⟨g, 0, none⟩)) w) (hv : OutV y n m (.tuple #[.agg #[a0, a1, a2, a3, a4], .int .u16 0]) w) (hap : k ≤ n ∨ m ≤ g) :
    Ext w0 (fillW w g a0 a1 a2 a3 a4) ∧ Blk (fillW w g a0 a1 a2 a3 a4) g TVAL #[a0, a1, a2, a3, a4] ∧ VAt (fillW w g a0 a1 a2 a3 a4) (fun _ => True) (.agg #[a0, a1, a2, a3, a4]) y := by
  obtain ⟨u, e, A, c, A', c', e2, h5⟩ := hv
  subst e2
  simp only [Value.tuple.injEq, Array.mk.injEq, List.cons.injEq, Value.agg.injEq, and_true] at e
  obtain ⟨rfl, rfl, rfl, rfl, rfl⟩ := e
  exact fill_facts hE hb.1 hb.2.2.2 h5 hb.2.2.1 hap
theorem OutV.head {y : V} {n m : Nat} {v : Value} {w : World} (h : OutV y n m v w) : ∃ A c A' c', v = .tuple #[.agg #[U8 y.kind, .int .i64 y.n, .string y.s, .slice A y.l.length c, .slice A' y.o.length c'], .int .u16 0] := by
  obtain ⟨u, rfl, A, c, A', c', rfl, _⟩ := h
  exact ⟨A, c, A', c', rfl⟩
end Go.Proofs.Ytioplgfopillnaa
