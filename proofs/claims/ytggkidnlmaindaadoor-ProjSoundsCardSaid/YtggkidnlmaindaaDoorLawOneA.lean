/- The law's 'one': a value of pieces; the flat ones. -/
import Derived.Test.YtggkidnlmaindaaDoorLawPlain
import Derived.Test.YtggkidnlmaindaaDoorMixVal
import Derived.Laws.Bits128
set_option linter.unusedSimpArgs false
set_option linter.unusedVariables false
namespace Go.Proofs.YtggkidnlmaindaaDoor
open Go.RowKit
set_option linter.unusedVariables false

/-- What 'one' hands back: a sound value; how many pieces it took. -/
def OneIs (w : World) (ts : List Tk) (e : Ending) (w' : World) : Prop := ∃ u x, ∃ n : Nat, e = .returned (.tuple #[u, .int .i64 (n : Int)]) ∧ n ≤ ts.length ∧ (ts ≠ [] → 1 ≤ n) ∧ x.size ≤ 4 * n + 1 ∧ SV x ∧ VAt w' (fun q => w.heap.size ≤ q) u x ∧ Ext w w'
abbrev TTOK : Nat := 65
theorem set5_to {w : World} {g : Nat} {T : TypeId} {cur : Array Value} (h : Blk w g T cur) (hc : cur.size = 5) (a b c d e : Value) : Blk (set5 w g 0 a b c d e) g T #[a, b, c, d, e] := by
  obtain ⟨cur', h5, h6⟩ := set5_blk h 0 a b c d e (by omega)
  have : cur' = #[a, b, c, d, e] := by
    apply Array.toList_inj.1
    rw [h6]
    have : cur.toList.drop 5 = [] := List.drop_eq_nil_of_le (by simp; omega)
    simp [this]
  rw [this] at h5
  exact h5
theorem blk5 {w : World} {b : Nat} {T : TypeId} {a0 a1 a2 a3 a4 : Value} (h : Blk w b T #[a0, a1, a2, a3, a4]) : w.cell? ⟨b, 0, none⟩ = some a0 ∧ w.cell? ⟨b, 1, none⟩ = some a1 ∧ w.cell? ⟨b, 2, none⟩ = some a2 ∧ w.cell? ⟨b, 3, none⟩ = some a3 ∧ w.cell? ⟨b, 4, none⟩ = some a4 :=
  ⟨h.cell 0, h.cell 1, h.cell 2, h.cell 3, h.cell 4⟩
theorem i64_and1 (n : Int) : bits .and .i64 n 1 = 0 ∨ bits .and .i64 n 1 = 1 := by
  have h1 : (BitVec.ofInt 64 1).toNat = 2 ^ 1 - 1 := by decide
  have key : (BitVec.ofInt 64 n &&& BitVec.ofInt 64 1).toNat = (n % ((2 ^ 64 : Nat) : Int)).toNat % 2 ^ 1 := by
    rw [BitVec.toNat_and, BitVec.toNat_ofInt, h1, Nat.and_two_pow_sub_one_eq_mod]
  have : bits .and .i64 n 1 = n % 2 := by
    show IntKind.i64.wrap ((BitVec.ofInt 64 n &&& BitVec.ofInt 64 1).toNat : Nat) = n % 2
    rw [key, IntKind.wrap_i64]
    omega
  omega
theorem flat_at (w : World) (S : BS) (k : UInt8) (n : Int) (s : ByteArray) : VAt w S (.agg #[U8 k, .int .i64 n, .string s, .slice none 0 0, .slice none 0 0]) (.mk k n s [] []) := ⟨_, _, rfl, Sl.nil _ _, Sl.nil _ _⟩
theorem flat_sv {k : UInt8} {n : Int} {s : ByteArray} (h : KindOk k n s [] []) : SV (.mk k n s [] []) := by
  rw [SV]; exact ⟨h, by rw [SVs]; trivial, by rw [SFs]; trivial, trivial⟩
theorem flat_size (k : UInt8) (n : Int) (s : ByteArray) : (V.mk k n s [] []).size = 1 := by rw [V.size]; simp [V.sizes, F.sizes]

set_option maxHeartbeats 1600000 in
theorem one_nil (A : Option Addr) (c : Nat) (d : Int) (w : World) : Calls Tryd.prog 53 #[.slice A 0 c, .int .i64 d] w (OneIs w []) := by
  go_enter Tryd.func53, Tryd.ntmps53
  go_wp2
  refine bodyPost_ret (v := .tuple #[.agg #[.int .u8 0, .int .i64 0, .string ⟨#[]⟩, .slice none 0 0, .slice none 0 0], .int .i64 0]) (by simp [results, Tryd.results53, go_sem]) rfl ?_
  exact ⟨_, .mk 0 0 ⟨#[]⟩ [] [], 0, rfl, by simp, fun h => absurd rfl h, by rw [flat_size]; omega, flat_sv (.inl ⟨rfl, rfl, rfl, rfl, rfl⟩), flat_at _ _ 0 _ _, (Keep.refl _ _).alloc _⟩

set_option maxHeartbeats 3200000 in
theorem one_flat (t : Tk) (ts : List Tk) (A : Option Addr) (c : Nat) (d : Int) (S : BS) (w : World) (hl : Sl ETok w S (.slice A (t :: ts).length c) (t :: ts)) (hn : (t :: ts).length ≤ 60) (h4 : (t.kind.toNat : Int) % 6 ≠ 4) (h5 : (t.kind.toNat : Int) % 6 ≠ 5) :
    Calls Tryd.prog 53 #[.slice A (t :: ts).length c, .int .i64 d] w (OneIs w (t :: ts)) := by
  obtain ⟨A', c', e, hlc, _⟩ := hl.shape
  obtain ⟨e1, e3⟩ : A = A' ∧ c = c' := by injection e with h1 _ h3; exact ⟨h1, h3⟩
  subst e1 e3
  clear e
  obtain ⟨b, off, c0, rfl, _, hlt, hrd, hcell⟩ := hl.at_ ETok.ok (k := 0) (by simp)
  obtain rfl : c0 = [U8 t.kind, .int .i64 t.n, .string t.s, U8 t.many] := hrd
  have p0 := hcell 0 _ rfl
  have p1 := hcell 1 _ rfl
  have p2 := hcell 2 _ rfl
  have p3 := hcell 3 _ rfl
  have hz : ETok.size = 4 := rfl
  simp only [hz, Nat.zero_mul, Nat.add_zero] at p0 p1 p2 p3
  have hlen : 0 < (t :: ts).length := by simp
  have hne : (t :: ts) ≠ [] := by simp
  have HNE := hid (And.intro hlen hne)
  have H4 := hid (And.intro h4 h5)
  clear hl hcell hz h4 h5 hne
  obtain ⟨tk, tn, tst, tm⟩ := t
  simp only at *
  generalize (Tk.mk tk tn tst tm :: ts) = tl at *
  obtain ⟨r, hr, hr6⟩ : ∃ r : Nat, (tk.toNat : Int) % 6 = r ∧ r < 6 := ⟨tk.toNat % 6, by omega, by omega⟩
  have hr' : r = 0 ∨ r = 1 ∨ r = 2 ∨ r = 3 := by have := H4.out; omega
  clear hr6 H4
  rcases hr' with rfl | rfl | rfl | rfl
  · go_enter Tryd.func53, Tryd.ntmps53
    go_wp2
    refine bodyPost_ret (v := .tuple #[.agg #[.int .u8 0, .int .i64 0, .string ⟨#[]⟩, .slice none 0 0, .slice none 0 0], .int .i64 1]) (by simp [results, Tryd.results53, go_sem]) rfl ?_
    exact ⟨_, .mk 0 0 ⟨#[]⟩ [] [], 1, rfl, HNE.out.1, fun h => Nat.le_refl _, by rw [flat_size]; omega, flat_sv (.inl ⟨rfl, rfl, rfl, rfl, rfl⟩), flat_at _ _ 0 _ _, ((Keep.refl _ _).alloc _).alloc _⟩
  · go_enter Tryd.func53, Tryd.ntmps53
    go_wp2
    refine bodyPost_ret (v := .tuple #[.agg #[.int .u8 1, .int .i64 (bits .and .i64 tn 1), .string ⟨#[]⟩, .slice none 0 0, .slice none 0 0], .int .i64 1]) (by simp [results, Tryd.results53, go_sem]) rfl ?_
    exact ⟨_, .mk 1 (bits .and .i64 tn 1) ⟨#[]⟩ [] [], 1, rfl, HNE.out.1, fun h => Nat.le_refl _, by rw [flat_size]; omega, flat_sv (.inr (.inl ⟨rfl, i64_and1 tn, rfl, rfl, rfl⟩)), flat_at _ _ 1 _ _, ((Keep.refl _ _).alloc _).alloc _⟩
  · go_enter Tryd.func53, Tryd.ntmps53
    go_wp2
    refine bodyPost_ret (v := .tuple #[.agg #[.int .u8 2, .int .i64 tn, .string ⟨#[]⟩, .slice none 0 0, .slice none 0 0], .int .i64 1]) (by simp [results, Tryd.results53, go_sem]) rfl ?_
    exact ⟨_, .mk 2 tn ⟨#[]⟩ [] [], 1, rfl, HNE.out.1, fun h => Nat.le_refl _, by rw [flat_size]; omega, flat_sv (.inr (.inr (.inl ⟨rfl, rfl, rfl, rfl⟩))), flat_at _ _ 2 _ _, ((Keep.refl _ _).alloc _).alloc _⟩
  · go_enter Tryd.func53, Tryd.ntmps53
    have hb : Blk ((w.alloc (.cells #[.int .u8 0, .int .i64 0, .string ⟨#[]⟩, .slice none 0 0, .slice none 0 0] TVAL)).alloc (.cells #[U8 tk, .int .i64 tn, .string tst, U8 tm] TTOK)) w.heap.size TVAL #[.int .u8 0, .int .i64 0, .string ⟨#[]⟩, .slice none 0 0, .slice none 0 0] := (Blk.new _ _ _).alloc _
    have hE : Ext w ((w.alloc (.cells #[.int .u8 0, .int .i64 0, .string ⟨#[]⟩, .slice none 0 0, .slice none 0 0] TVAL)).alloc (.cells #[U8 tk, .int .i64 tn, .string tst, U8 tm] TTOK)) := ((Keep.refl _ _).alloc _).alloc _
    go_wp2_with fail
    generalize ((w.alloc (.cells #[.int .u8 0, .int .i64 0, .string ⟨#[]⟩, .slice none 0 0, .slice none 0 0] TVAL)).alloc (.cells #[U8 tk, .int .i64 tn, .string tst, U8 tm] TTOK)) = w1 at *
    refine (plain_ok tst w1).mono ?_
    rintro e w2 ⟨rfl, hE2⟩
    have hb2 := hb.keep hE2 id
    have hA := plain_asc tst
    generalize textOf (plainL tst) = pl at *
    have HA := hid hA
    have hbr := set5_to hb2 rfl (.int .u8 3) (.int .i64 0) (.string pl) (.slice none 0 0) (.slice none 0 0)
    obtain ⟨t0, t1, t2, t3, t4⟩ := blk5 hbr
    have HT := hid (And.intro t0 (And.intro t1 (And.intro t2 (And.intro t3 t4))))
    have HE := hid ((hE.ext hE2).trans (set5_keep w2 w.heap.size 0 (.int .u8 3) (.int .i64 0) (.string pl) (.slice none 0 0) (.slice none 0 0)) fun q hq e => by omega)
    obtain ⟨q0, q1, q2, q3, q4⟩ := blk5 hb2
    have f0 := hb2.frozen 0
    have f1 := hb2.frozen 1
    have f2 := hb2.frozen 2
    have f3 := hb2.frozen 3
    have f4 := hb2.frozen 4
    clear t0 t1 t2 t3 t4 hb hE hE2 hb2 hbr hA
    go_wp2
    obtain ⟨t0, t1, t2, t3, t4⟩ := HT.out
    refine bodyPost_ret (v := .tuple #[  .agg #[.int .u8 3, .int .i64 0, .string pl, .slice none 0 0, .slice none 0 0], .int .i64 1]) (by simp [results, Tryd.results53, go_sem, t0, t1, t2, t3, t4]) rfl ?_
    exact ⟨_, .mk 3 0 pl [] [], 1, rfl, HNE.out.1, fun h => Nat.le_refl _, by rw [flat_size]; omega, flat_sv (.inr (.inr (.inr (.inl ⟨rfl, rfl, HA.out, rfl, rfl⟩)))), flat_at _ _ 3 _ _, HE.out⟩
end Go.Proofs.YtggkidnlmaindaaDoor
