/- RawNum: laid together. -/
import Derived.Test.YtihaliffcobacaaGreatDoorSbB26
import Derived.Test.YtihaliffcobacaaGreatDoorSbB10
set_option linter.unusedSimpArgs false
set_option linter.unusedVariables false
set_option maxHeartbeats 25600000
set_option maxRecDepth 20000
namespace Go.Proofs.YtihaliffcobacaaGreatDoor
open Go.RowKit
def TokIs (ts : List Tk) (x : V) : Prop := StrIs ts x ∧ NumT ts x
def TokV (ts : List Tk) (xs : List V) : Prop := StrV ts xs ∧ ∀ x ∈ xs, NumT ts x
def TokF (ts : List Tk) (xs : List F) : Prop := StrF ts xs ∧ ∀ f ∈ xs, NumT ts f.v
theorem TokV.nil (ts : List Tk) : TokV ts [] := ⟨StrV.nil _, fun x h => by simp at h⟩
theorem TokF.nil (ts : List Tk) : TokF ts [] := ⟨StrF.nil _, fun x h => by simp at h⟩
theorem TokIs.sub {ts ts' : List Tk} {x : V} (h : TokIs ts x) (hs : ∀ t ∈ ts, t ∈ ts') : TokIs ts' x := ⟨h.1.sub hs, h.2.sub hs⟩
theorem TokV.snoc {ts : List Tk} {xs : List V} {x : V} (h : TokV ts xs) (hx : TokIs ts x) : TokV ts (xs ++ [x]) := ⟨h.1.snoc hx.1, fun y hy => by
 rcases List.mem_append.1 hy with hy | hy
 ·exact h.2 y hy
 ·rw [List.mem_singleton.1 hy]; exact hx.2⟩
theorem TokF.snoc {ts : List Tk} {xs : List F} {x : V} (h : TokF ts xs) (hx : TokIs ts x) : TokF ts (xs ++ [F.mk x.s x]) := ⟨h.1.snoc hx.1, fun y hy => by
 rcases List.mem_append.1 hy with hy | hy
 ·exact h.2 y hy
 ·rw [List.mem_singleton.1 hy]; exact hx.2⟩
theorem TokIs.mkV {ts : List Tk} {k : UInt8} {n : Int} {s : ByteArray} {xs : List V} (hs : (∀ R, (∀ t ∈ ts, t.s.size ≤ R) → s.size ≤ R) ∧ (∀ P : Int → Prop, (∀ t ∈ ts, P t.n) → P 0 → P 1 → P n)) (h : TokV ts xs) : TokIs ts (.mk k n s xs []) :=
 ⟨StrIs.mkV hs.1 h.1, fun P h1 h2 h3 => by rw [NAll]; exact ⟨hs.2 P h1 h2 h3, (NAlls_iff P _).2 fun x hx => h.2 x hx P h1 h2 h3, by rw [NFAlls]; trivial⟩⟩
theorem TokIs.mkF {ts : List Tk} {k : UInt8} {n : Int} {s : ByteArray} {xs : List F} (hs : (∀ R, (∀ t ∈ ts, t.s.size ≤ R) → s.size ≤ R) ∧ (∀ P : Int → Prop, (∀ t ∈ ts, P t.n) → P 0 → P 1 → P n)) (h : TokF ts xs) : TokIs ts (.mk k n s [] xs) :=
 ⟨StrIs.mkF hs.1 h.1, fun P h1 h2 h3 => by rw [NAll]; exact ⟨hs.2 P h1 h2 h3, by rw [NAlls]; trivial, (NFAlls_iff P _).2 fun x hx => h.2 x hx P h1 h2 h3⟩⟩
def RawIsN (w : World) (ts : List Tk) (e : Ending) (w' : World) : Prop := ∃ u x, ∃ n : Nat, e = .returned (.tuple #[u, .int .i64 (n : Int)]) ∧ n ≤ ts.length ∧ (ts ≠ [] → 1 ≤ n) ∧ (x.size ≤ 4 * n + 1 ∧ TokIs ts x) ∧ VAt w' (fun q => w.heap.size ≤ q) u x ∧ Ext w w'
def RawUptoN (m : Nat) : Prop := ∀ (ts : List Tk) (n : Nat) (d : Int) (A : Option Addr) (c : Nat) (S : BS) (w : World), n = ts.length → n ≤ m → 0 ≤ d → d ≤ 20 → Sl ETok w S (.slice A n c) ts → Calls Tryz.prog 52 #[.slice A n c, .int .i64 d] w (RawIsN w ts)
theorem raw_nilN (A : Option Addr) (c : Nat) (d : Int) (w : World) : Calls Tryz.prog 52 #[.slice A 0 c, .int .i64 d] w (RawIsN w []) := by
 go_enter Tryz.func52, Tryz.ntmps52
 go_wp2
 refine bodyPost_ret (v := .tuple #[.agg #[.int .u8 0, .int .i64 0, .string ⟨#[]⟩, .slice none 0 0, .slice none 0 0], .int .i64 0]) (by simp [results, Tryz.results52, go_sem]) rfl ?_
 exact ⟨_, .mk 0 0 ⟨#[]⟩ [] [], 0, rfl, by simp, fun h => absurd rfl h, ⟨by rw [flat_size]; omega, TokIs.mkV ⟨fun R _ => Nat.zero_le R, fun P _ h0 _ => h0⟩ (TokV.nil _)⟩, flat_at _ _ 0 _ _, (Keep.refl _ _).alloc _⟩
theorem raw_listN (m : Nat) (ih : RawUptoN m) (t : Tk) (ts : List Tk) (n : Nat) (A : Option Addr) (c : Nat) (d : Int) (S : BS) (w : World) (hnl : n = (t :: ts).length) (hl : Sl ETok w S (.slice A n c) (t :: ts)) (hn : n ≤ m + 1) (hm : m + 1 ≤ 60) (hd0 : 0 ≤ d) (hd6 : d ≤ 20) (hk : (t.kind.toNat : Int) % 2 = 0) :
  Calls Tryz.prog 52 #[.slice A n c, .int .i64 d] w (RawIsN w (t :: ts)) := by
 obtain ⟨A', c', e, hlc, hcm⟩ := hl.shape
 obtain ⟨e1, e3⟩ : A = A' ∧ c = c' := by injection e with h1 _ h3; exact ⟨h1, h3⟩
 subst e1 e3
 rw [← hnl] at hlc
 clear e
 unfold maxLen at hcm
 obtain ⟨b, off, c0, rfl, _, hlt, hrd, hcell⟩ := hl.at_ ETok.ok (k := 0) (by simp)
 obtain rfl : c0 = [U8 t.kind, .int .i64 t.n, .string t.s, U8 t.many] := hrd
 have p0 := hcell 0 _ rfl
 have p1 := hcell 1 _ rfl
 have p2 := hcell 2 _ rfl
 have p3 := hcell 3 _ rfl
 have hz : ETok.size = 4 := rfl
 simp only [hz, Nat.zero_mul, Nat.add_zero] at p0 p1 p2 p3
 have hn0 : 0 < n := by rw [hnl]; simp
 have hne0 : ((n : Int) == 0) = false := by simp; omega
 have hsl : Sl ETok w (fun k => S k ∧ k < w.heap.size) (.slice (some ⟨b, off, none⟩) n c) (t :: ts) := hl.more ETok.ok fun k h1 h2 => ⟨h2, h1⟩
 have HL := hid hsl
 have HIH := hid ih
 have HNL := hid hnl
 have HK := hid hk
 clear hl hcell hz hsl ih hnl hk
 obtain ⟨tk, tn, tst, tm⟩ := t
 simp only at *
 have HTS := hid (show (∀ R, (∀ u ∈ (Tk.mk tk tn tst tm :: ts), u.s.size ≤ R) → tst.size ≤ R) ∧ (∀ P : Int → Prop, (∀ u ∈ (Tk.mk tk tn tst tm :: ts), P u.n) → P 0 → P 1 → P tn) from ⟨fun R h => h _ List.mem_cons_self, fun P h _ _ => h _ List.mem_cons_self⟩)
 generalize (Tk.mk tk tn tst tm :: ts) = tl at *
 obtain ⟨mk, hmk, hmk4⟩ : ∃ mk : Nat, (tm.toNat : Int) % 4 = mk ∧ mk ≤ 3 := ⟨tm.toNat % 4, by omega, by omega⟩
 obtain ⟨w0, hw0⟩ : ∃ w0, w0 = ((w.alloc (.cells #[.int .u8 0, .int .i64 0, .string ⟨#[]⟩, .slice none 0 0, .slice none 0 0] TVAL)).alloc (.cells #[U8 tk, .int .i64 tn, .string tst, U8 tm] TTOK)).alloc (.cells #[U8 tk, .int .i64 tn, .string tst, .slice none 0 0, .slice none 0 0] TVAL) := ⟨_, rfl⟩
 have hsz : w.heap.size + 3 ≤ w0.heap.size := by rw [hw0]; simp
 have hE0 : Ext w w0 := by rw [hw0]; exact (((Keep.refl _ _).alloc _).alloc _).alloc _
 have hb4 : Blk w0 w.heap.size TVAL #[.int .u8 0, .int .i64 0, .string ⟨#[]⟩, .slice none 0 0, .slice none 0 0] := by rw [hw0]; exact ((Blk.new _ _ _).alloc _).alloc _
 have hb6 : Blk w0 (w.heap.size + 1) TTOK #[U8 tk, .int .i64 tn, .string tst, U8 tm] := by
  have := (Blk.new (w.alloc (.cells #[.int .u8 0, .int .i64 0, .string ⟨#[]⟩, .slice none 0 0, .slice none 0 0] TVAL)) TTOK #[U8 tk, .int .i64 tn, .string tst, U8 tm]).alloc (.cells #[U8 tk, .int .i64 tn, .string tst, .slice none 0 0, .slice none 0 0] TVAL)
  rw [World.size_alloc] at this
  rw [hw0]; exact this
 have hb8 : Blk w0 (w.heap.size + 2) TVAL #[U8 tk, .int .i64 tn, .string tst, .slice none 0 0, .slice none 0 0] := by
  have := Blk.new ((w.alloc (.cells #[.int .u8 0, .int .i64 0, .string ⟨#[]⟩, .slice none 0 0, .slice none 0 0] TVAL)).alloc (.cells #[U8 tk, .int .i64 tn, .string tst, U8 tm] TTOK)) TVAL #[U8 tk, .int .i64 tn, .string tst, .slice none 0 0, .slice none 0 0]
  rw [World.size_alloc, World.size_alloc] at this
  rw [hw0]; exact this
 have HE0 := hid hE0
 have HB4 := hid hb4
 have HB6 := hid hb6
 have HB8 := hid hb8
 clear hE0 hb4 hb6 hb8
 go_enter Tryz.func52, Tryz.ntmps52
 go_wp2_with fail
 simp only [← hw0]
 clear hw0 p0 p1 p2 p3
 go_loopw [8, 9, 10, 11] (fun y i _ _ wr => ∃ (k j : Nat) (xs : List V) (lv : Value), y = .int .i64 k ∧ i = .int .u8 j ∧ j ≤ mk ∧ 1 ≤ k ∧ k ≤ n ∧ xs.length = j ∧ (V.sizes xs ≤ 4 * (k - 1) + j ∧ TokV tl xs) ∧
  Blk wr (w.heap.size + 2) TVAL #[U8 tk, .int .i64 tn, .string tst, lv, .slice none 0 0] ∧ Own EVal wr w0.heap.size TVAL (DS wr w0.heap.size lv) lv xs ∧ Keep (· = w.heap.size + 2) w0 wr) (fun _ i _ _ _ => mk - (intOf i).toNat)
 case atStart => exact ⟨1, 0, [], .slice none 0 0, rfl, rfl, by omega, by omega, by omega, rfl, ⟨by simp [V.sizes, F.sizes], TokV.nil _⟩, HB8.out, Own.nil _ _ _ _, Keep.refl _ _⟩
 case round =>
  obtain ⟨k, j, xs, lv, rfl, rfl, hj, hk1, hkn, hxl, hvs, hb8, hown, hkr⟩ := hrel
  obtain ⟨A3, c3, rfl, hl3, hc3⟩ := hown.shape
  have hb6r := HB6.out.keep hkr (by omega)
  have hb4r := HB4.out.keep hkr (by omega)
  have z3 : wr.cell? ⟨w.heap.size + 1, 3, none⟩ = some (U8 tm) := hb6r.cell 3
  have z0 : wr.cell? ⟨w.heap.size + 1, 0, none⟩ = some (U8 tk) := hb6r.cell 0
  obtain ⟨x0, x1, x2, x3, x4⟩ := blk5 hb8
  have hER : Ext w wr := HE0.out.trans hkr fun q hq e => by omega
  have HER := hid hER
  have HKR := hid hkr
  have HO := hid hown
  have HBX := hid hb8
  have HB4r := hid hb4r
  have HVS := hid (And.intro hvs hxl)
  clear hxl
  have hsR := hER.size
  have hsR0 := hkr.size
  by_cases hjm : j < mk ∧ d < 20
  ·obtain ⟨hjm, hdd⟩ := hjm
   clear hb4r hb6r hER hkr hown hb8 hvs
   obtain ⟨A2, r2, f2⟩ := tail_fact (P := Tryz.prog) ETok.ok ty_tok (HL.out.ext ETok.ok HER.out) (a := (k : Int)) (lo := k) rfl (by have := HNL.out; omega)
   have hcall := HIH.out (tl.drop k) (n - k) (d + 1) A2 (c - k) _ wr (by have := HNL.out; rw [List.length_drop]; omega) (by omega) (by omega) (by omega) f2
   have HC := hid hcall
   clear hcall f2
   go_wp2_with fail
   refine HC.out.mono ?_
   rintro e w5 ⟨u5, x, n5, rfl, hn5, _, hsz5, hva5, hE5⟩
   rw [List.length_drop] at hn5
   obtain ⟨lv5, ov5, rfl, hl5, ho5⟩ := hva5
   obtain ⟨A5, c5, rfl, _⟩ := hl5.shape
   obtain ⟨A6, c6, rfl, _⟩ := ho5.shape
   have hkn5 : k + n5 ≤ n := by have := HNL.out; omega
   have hE6 : Ext w5 (w5.alloc (.cells #[U8 x.kind, .int .i64 x.n, .string x.s, .slice A5 x.l.length c5, .slice A6 x.o.length c6] TVAL)) := (Keep.refl _ _).alloc _
   have hb8w := HBX.out.keep hE5 id
   by_cases hn50 : n5 = 0
   ·subst hn50
    have hat0 : Sl EVal (w5.alloc (.cells #[U8 x.kind, .int .i64 x.n, .string x.s, .slice A5 x.l.length c5, .slice A6 x.o.length c6] TVAL)) (fun q => w0.heap.size ≤ q) (.slice A3 xs.length c3) xs := (((HO.out.sl EVal.ok).more EVal.ok fun q _ h => h.elim (fun h => h.1) fun h => (HO.out.lt h).1).ext EVal.ok hE5).ext EVal.ok hE6
    have hb4r := (HB4r.out.keep hE5 id).keep hE6 id
    have HERW := (HER.out.ext hE5).ext hE6
    replace x0 := ((hE5.ext hE6).cell (lt_of_cell x0) id).trans x0
    replace x1 := ((hE5.ext hE6).cell (lt_of_cell x1) id).trans x1
    replace x2 := ((hE5.ext hE6).cell (lt_of_cell x2) id).trans x2
    replace x3 := ((hE5.ext hE6).cell (lt_of_cell x3) id).trans x3
    replace x4 := ((hE5.ext hE6).cell (lt_of_cell x4) id).trans x4
    clear z0 z3 HC hl5 ho5 hE5 hE6 hb8w
    generalize hw6 : (w5.alloc (.cells #[U8 x.kind, .int .i64 x.n, .string x.s, .slice A5 x.l.length c5, .slice A6 x.o.length c6] TVAL)) = w6 at *
    have hbr := set5_to hb4r rfl (U8 tk) (.int .i64 tn) (.string tst) (.slice A3 xs.length c3) (.slice none 0 0)
    obtain ⟨t0, t1, t2, t3, t4⟩ := blk5 hbr
    have hk5 := set5_keep w6 w.heap.size 0 (U8 tk) (.int .i64 tn) (.string tst) (.slice A3 xs.length c3) (.slice none 0 0)
    have hat : VAt (set5 w6 w.heap.size 0 (U8 tk) (.int .i64 tn) (.string tst) (.slice A3 xs.length c3) (.slice none 0 0)) (fun q => w.heap.size ≤ q) (.agg #[U8 tk, .int .i64 tn, .string tst, (.slice A3 xs.length c3), .slice none 0 0]) (.mk tk tn tst xs []) := ⟨_, _, rfl, (hat0.keep EVal.ok hk5 (fun q hq e => by omega)).more EVal.ok fun q _ h => by omega, Sl.nil _ _⟩
    have HT := hid (And.intro t0 (And.intro t1 (And.intro t2 (And.intro t3 t4))))
    have HR := hid (show RawIsN w tl (.returned (.tuple #[.agg #[U8 tk, .int .i64 tn, .string tst, (.slice A3 xs.length c3), .slice none 0 0], .int .i64 (k : Int)])) (set5 w6 w.heap.size 0 (U8 tk) (.int .i64 tn) (.string tst) (.slice A3 xs.length c3) (.slice none 0 0)) from
     ⟨_, (.mk tk tn tst xs []), k, rfl, by have := HNL.out; omega, fun _ => hk1, ⟨by have := HVS.out.1; have := HVS.out.2; rw [V.size]; simp only [V.sizes, F.sizes]; omega, TokIs.mkV HTS.out HVS.out.1.2⟩, hat, HERW.trans hk5 fun q hq e => by omega⟩)
    obtain ⟨q0, q1, q2, q3, q4⟩ := blk5 hb4r
    obtain ⟨f0, f1, f2, f3, f4⟩ := sqf5 hb4r
    clear t0 t1 t2 t3 t4 hbr hat hk5 HERW hat0
    go_wp2
    obtain ⟨t0, t1, t2, t3, t4⟩ := HT.out
    change bodyPost _ _ _ _ _ (set5 w6 w.heap.size 0 (U8 tk) (.int .i64 tn) (.string tst) (.slice A3 xs.length c3) (.slice none 0 0))
    generalize (set5 w6 w.heap.size 0 (U8 tk) (.int .i64 tn) (.string tst) (.slice A3 xs.length c3) (.slice none 0 0)) = wz at *
    refine bodyPost_ret (v := .tuple #[.agg #[U8 tk, .int .i64 tn, .string tst, (.slice A3 xs.length c3), .slice none 0 0], .int .i64 (k : Int)]) (by simp [results, Tryz.results52, go_sem, t0, t1, t2, t3, t4]) rfl HR.out
   ·have hn5X : ((n5 : Int) == 0) = false := by simp; omega
    have hE7 : Ext (w5.alloc (.cells #[U8 x.kind, .int .i64 x.n, .string x.s, .slice A5 x.l.length c5, .slice A6 x.o.length c6] TVAL)) ((w5.alloc (.cells #[U8 x.kind, .int .i64 x.n, .string x.s, .slice A5 x.l.length c5, .slice A6 x.o.length c6] TVAL)).alloc (.cells #[U8 x.kind, .int .i64 x.n, .string x.s, .slice A5 x.l.length c5, .slice A6 x.o.length c6] TVAL)) := (Keep.refl _ _).alloc _
    have hOb := ((HO.out.ext EVal.ok hE5).ext EVal.ok hE6).ext EVal.ok hE7
    have hRx := RowS.new (w := (w5.alloc (.cells #[U8 x.kind, .int .i64 x.n, .string x.s, .slice A5 x.l.length c5, .slice A6 x.o.length c6] TVAL))) (t := TVAL) (sz := 5) (n := 1) (cs := [U8 x.kind, .int .i64 x.n, .string x.s, .slice A5 x.l.length c5, .slice A6 x.o.length c6]) rfl (by simp [maxLen]) (0, 0)
    rw [World.size_alloc] at hRx
    have hva6 : VAt ((w5.alloc (.cells #[U8 x.kind, .int .i64 x.n, .string x.s, .slice A5 x.l.length c5, .slice A6 x.o.length c6] TVAL)).alloc (.cells #[U8 x.kind, .int .i64 x.n, .string x.s, .slice A5 x.l.length c5, .slice A6 x.o.length c6] TVAL)) (fun q => wr.heap.size ≤ q ∧ q < w5.heap.size) (.agg #[U8 x.kind, .int .i64 x.n, .string x.s, .slice A5 x.l.length c5, .slice A6 x.o.length c6]) x := VAt.ext (VAt.ext (VAt.more ⟨_, _, rfl, hl5, ho5⟩ fun q h1 h2 => ⟨h2, h1⟩) hE6) hE7
    have HDx := hid (Cells.single (E := EVal) hva6.rd)
    have HOb := hid hOb
    have HRx := hid hRx
    have HE57 := hid ((hE5.ext hE6).ext hE7)
    have HZ5 := hid hE5.size
    have y3 : w5.cell? ⟨w.heap.size + 2, 3, none⟩ = some (.slice A3 xs.length c3) := hb8w.cell 3
    have y0 := (hE5.cell (lt_of_cell z0) id).trans z0
    have HB8w := hid ((hb8w.keep hE6 id).keep hE7 id)
    have hs5 : w.heap.size + 2 < w5.heap.size := hb8w.lt
    have hs5b : w.heap.size + 1 < w5.heap.size := by omega
    have hs5r := hE5.size
    have hkk := HK.out
    clear x0 x1 x2 x3 x4 z3 z0 HC hl5 ho5 hva6 hOb hRx hE5 hE6 hE7 hb8w
    go_wp2_with (at_builtin; refine wpList_own_append2 (ys := [x]) _ rfl (.tmp 53) (.tmp 55) EVal.ok ty_val rfl rfl rfl HOb.out HRx.out HDx.out ?d1 ?d2 ?d3 ?d4 ?_)
    case d1 => exact fun g hg => ⟨fun h => h.2.2 hg, fun h => by have := (HO.out.lt (show (Value.slice A3 xs.length c3).ownBlock = some g from hg)).2; omega⟩
    case d2 => have := HVS.out.2; simp only [List.length_singleton]; omega
    case d3 => have := HVS.out.2; simp only [List.length_singleton, maxLen]; omega
    case d4 => simp only [World.size_alloc]; omega
    intro v' w' hown' hk' hb'
    obtain ⟨A7, c7, hv7, hl7, hc7⟩ := hown'.shape
    rw [show (xs ++ [x]).length = xs.length + 1 from by simp] at hv7
    subst hv7
    have hnb : ∀ g, (Value.slice A3 xs.length c3).ownBlock = some g → w0.heap.size ≤ g ∧ g < wr.heap.size := fun g hg => HO.out.lt hg
    have hb8n := HB8w.out.keep hk' (fun e => by have := (hnb _ e).1; omega)
    have y3' : w'.cell? ⟨w.heap.size + 2, 3, none⟩ = some (.slice A3 xs.length c3) := hb8n.cell 3
    have g3' := hb8n.frozen 3
    have hwz : w'.heap.size ≥ w5.heap.size + 2 := by have := hk'.size; simp at this; exact this
    have hbq : (Value.slice A7 (xs.length + 1) c7).ownBlock = (Value.slice A3 xs.length c3).ownBlock ∨ (Value.slice A7 (xs.length + 1) c7).ownBlock = some (w5.heap.size + 2) := by
     rcases hb' with h | h
     ·exact .inl h
     ·exact .inr (h.trans rfl)
    have ho2 : Own EVal w' w0.heap.size TVAL (DS w' w0.heap.size (.slice A7 (xs.length + 1) c7)) (.slice A7 (xs.length + 1) c7) (xs ++ [x]) :=
     ds_next (N := w5.heap.size + 2) EVal.ok hown' (by have := HZ5.out; omega) hwz (fun q h => ⟨h.1, by have := h.2; omega⟩) hsR0 (fun g hg => (hnb g hg).2) hbq
    have hset : Keep (· = w.heap.size + 2) w' (w'.setCell ⟨w.heap.size + 2, 3, none⟩ (.slice A7 (xs.length + 1) c7)) := Keep.setAt (Keep.refl (· = w.heap.size + 2) w') (fun _ => rfl) 3 _
    have ho3 : Own EVal (w'.setCell ⟨w.heap.size + 2, 3, none⟩ (.slice A7 (xs.length + 1) c7)) w0.heap.size TVAL (DS (w'.setCell ⟨w.heap.size + 2, 3, none⟩ (.slice A7 (xs.length + 1) c7)) w0.heap.size (.slice A7 (xs.length + 1) c7)) (.slice A7 (xs.length + 1) c7) (xs ++ [x]) :=
     (ho2.keep EVal.ok hset (fun q hq e => by have := hq.1; omega) (fun g hg e => by have := (ho2.lt hg).1; omega)).more EVal.ok fun q _ h => ⟨h.1, Nat.lt_of_lt_of_le h.2.1 hset.size, h.2.2⟩
    have hblk : Blk (w'.setCell ⟨w.heap.size + 2, 3, none⟩ (.slice A7 (xs.length + 1) c7)) (w.heap.size + 2) TVAL #[U8 tk, .int .i64 tn, .string tst, .slice A7 (xs.length + 1) c7, .slice none 0 0] := hb8n.set_ 3 _
    have hkk2 : Keep (· = w.heap.size + 2) w0 (w'.setCell ⟨w.heap.size + 2, 3, none⟩ (.slice A7 (xs.length + 1) c7)) :=
     ((HKR.out.trans (HE57.out.mono fun _ _ x => x.elim) (fun _ _ h => h)).trans hk' (fun q hq e => by have := (hnb q e).1; omega)).trans hset (fun q _ e => e)
    have HREL := hid (And.intro hblk (And.intro ho3 hkk2))
    have HVS2 := hid (show V.sizes (xs ++ [x]) ≤ 4 * (k + n5 - 1) + (j + 1) ∧ TokV tl (xs ++ [x]) from ⟨by
     have := HVS.out.1
     rw [V.sizes_append]
     simp only [V.sizes]
     omega, TokV.snoc HVS.out.1.2 (hsz5.2.sub fun t ht => List.mem_of_mem_drop ht)⟩)
    have hlx : (xs ++ [x]).length = j + 1 := by rw [List.length_append, HVS.out.2]; rfl
    have HLX := hid hlx
    clear hown' hk' hb' ho2 ho3 hset hblk hkk2 HO HOb HRx HDx HE57 HB8w HBX HVS HKR hbq hb8n hlx hnb hkk y0
    go_wp2
    exact ⟨⟨k + n5, j + 1, xs ++ [x], _, by go_num, by go_num, by omega, by omega, by omega, HLX.out, HVS2.out, HREL.out.1, HREL.out.2.1, HREL.out.2.2⟩, by simp [intOf]; omega⟩
  ·have hat0 : Sl EVal wr (fun q => w0.heap.size ≤ q) (.slice A3 xs.length c3) xs := (HO.out.sl EVal.ok).more EVal.ok fun q _ h => h.elim (fun h => h.1) fun h => (HO.out.lt h).1
   have HERW := HER.out
   clear hb6r hER hkr hown hb8 hvs
   by_cases hjm2 : j < mk
   ·have hdd : ¬ d < 20 := fun h => hjm ⟨hjm2, h⟩
    clear hjm
    have hbr := set5_to hb4r rfl (U8 tk) (.int .i64 tn) (.string tst) (.slice A3 xs.length c3) (.slice none 0 0)
    obtain ⟨t0, t1, t2, t3, t4⟩ := blk5 hbr
    have hk5 := set5_keep wr w.heap.size 0 (U8 tk) (.int .i64 tn) (.string tst) (.slice A3 xs.length c3) (.slice none 0 0)
    have hat : VAt (set5 wr w.heap.size 0 (U8 tk) (.int .i64 tn) (.string tst) (.slice A3 xs.length c3) (.slice none 0 0)) (fun q => w.heap.size ≤ q) (.agg #[U8 tk, .int .i64 tn, .string tst, (.slice A3 xs.length c3), .slice none 0 0]) (.mk tk tn tst xs []) := ⟨_, _, rfl, (hat0.keep EVal.ok hk5 (fun q hq e => by omega)).more EVal.ok fun q _ h => by omega, Sl.nil _ _⟩
    have HT := hid (And.intro t0 (And.intro t1 (And.intro t2 (And.intro t3 t4))))
    have HR := hid (show RawIsN w tl (.returned (.tuple #[.agg #[U8 tk, .int .i64 tn, .string tst, (.slice A3 xs.length c3), .slice none 0 0], .int .i64 (k : Int)])) (set5 wr w.heap.size 0 (U8 tk) (.int .i64 tn) (.string tst) (.slice A3 xs.length c3) (.slice none 0 0)) from
     ⟨_, (.mk tk tn tst xs []), k, rfl, by have := HNL.out; omega, fun _ => hk1, ⟨by have := HVS.out.1; have := HVS.out.2; rw [V.size]; simp only [V.sizes, F.sizes]; omega, TokIs.mkV HTS.out HVS.out.1.2⟩, hat, HERW.trans hk5 fun q hq e => by omega⟩)
    obtain ⟨q0, q1, q2, q3, q4⟩ := blk5 hb4r
    obtain ⟨f0, f1, f2, f3, f4⟩ := sqf5 hb4r
    clear t0 t1 t2 t3 t4 hbr hat hk5 HERW hat0
    go_wp2
    obtain ⟨t0, t1, t2, t3, t4⟩ := HT.out
    change bodyPost _ _ _ _ _ (set5 wr w.heap.size 0 (U8 tk) (.int .i64 tn) (.string tst) (.slice A3 xs.length c3) (.slice none 0 0))
    generalize (set5 wr w.heap.size 0 (U8 tk) (.int .i64 tn) (.string tst) (.slice A3 xs.length c3) (.slice none 0 0)) = wz at *
    refine bodyPost_ret (v := .tuple #[.agg #[U8 tk, .int .i64 tn, .string tst, (.slice A3 xs.length c3), .slice none 0 0], .int .i64 (k : Int)]) (by simp [results, Tryz.results52, go_sem, t0, t1, t2, t3, t4]) rfl HR.out
   ·clear hjm
    have hbr := set5_to hb4r rfl (U8 tk) (.int .i64 tn) (.string tst) (.slice A3 xs.length c3) (.slice none 0 0)
    obtain ⟨t0, t1, t2, t3, t4⟩ := blk5 hbr
    have hk5 := set5_keep wr w.heap.size 0 (U8 tk) (.int .i64 tn) (.string tst) (.slice A3 xs.length c3) (.slice none 0 0)
    have hat : VAt (set5 wr w.heap.size 0 (U8 tk) (.int .i64 tn) (.string tst) (.slice A3 xs.length c3) (.slice none 0 0)) (fun q => w.heap.size ≤ q) (.agg #[U8 tk, .int .i64 tn, .string tst, (.slice A3 xs.length c3), .slice none 0 0]) (.mk tk tn tst xs []) := ⟨_, _, rfl, (hat0.keep EVal.ok hk5 (fun q hq e => by omega)).more EVal.ok fun q _ h => by omega, Sl.nil _ _⟩
    have HT := hid (And.intro t0 (And.intro t1 (And.intro t2 (And.intro t3 t4))))
    have HR := hid (show RawIsN w tl (.returned (.tuple #[.agg #[U8 tk, .int .i64 tn, .string tst, (.slice A3 xs.length c3), .slice none 0 0], .int .i64 (k : Int)])) (set5 wr w.heap.size 0 (U8 tk) (.int .i64 tn) (.string tst) (.slice A3 xs.length c3) (.slice none 0 0)) from
     ⟨_, (.mk tk tn tst xs []), k, rfl, by have := HNL.out; omega, fun _ => hk1, ⟨by have := HVS.out.1; have := HVS.out.2; rw [V.size]; simp only [V.sizes, F.sizes]; omega, TokIs.mkV HTS.out HVS.out.1.2⟩, hat, HERW.trans hk5 fun q hq e => by omega⟩)
    obtain ⟨q0, q1, q2, q3, q4⟩ := blk5 hb4r
    obtain ⟨f0, f1, f2, f3, f4⟩ := sqf5 hb4r
    clear t0 t1 t2 t3 t4 hbr hat hk5 HERW hat0
    go_wp2
    obtain ⟨t0, t1, t2, t3, t4⟩ := HT.out
    change bodyPost _ _ _ _ _ (set5 wr w.heap.size 0 (U8 tk) (.int .i64 tn) (.string tst) (.slice A3 xs.length c3) (.slice none 0 0))
    generalize (set5 wr w.heap.size 0 (U8 tk) (.int .i64 tn) (.string tst) (.slice A3 xs.length c3) (.slice none 0 0)) = wz at *
    refine bodyPost_ret (v := .tuple #[.agg #[U8 tk, .int .i64 tn, .string tst, (.slice A3 xs.length c3), .slice none 0 0], .int .i64 (k : Int)]) (by simp [results, Tryz.results52, go_sem, t0, t1, t2, t3, t4]) rfl HR.out
theorem raw_objN (m : Nat) (ih : RawUptoN m) (t : Tk) (ts : List Tk) (n : Nat) (A : Option Addr) (c : Nat) (d : Int) (S : BS) (w : World) (hnl : n = (t :: ts).length) (hl : Sl ETok w S (.slice A n c) (t :: ts)) (hn : n ≤ m + 1) (hm : m + 1 ≤ 60) (hd0 : 0 ≤ d) (hd6 : d ≤ 20) (hk : (t.kind.toNat : Int) % 2 = 1) :
  Calls Tryz.prog 52 #[.slice A n c, .int .i64 d] w (RawIsN w (t :: ts)) := by
 obtain ⟨A', c', e, hlc, hcm⟩ := hl.shape
 obtain ⟨e1, e3⟩ : A = A' ∧ c = c' := by injection e with h1 _ h3; exact ⟨h1, h3⟩
 subst e1 e3
 rw [← hnl] at hlc
 clear e
 unfold maxLen at hcm
 obtain ⟨b, off, c0, rfl, _, hlt, hrd, hcell⟩ := hl.at_ ETok.ok (k := 0) (by simp)
 obtain rfl : c0 = [U8 t.kind, .int .i64 t.n, .string t.s, U8 t.many] := hrd
 have p0 := hcell 0 _ rfl
 have p1 := hcell 1 _ rfl
 have p2 := hcell 2 _ rfl
 have p3 := hcell 3 _ rfl
 have hz : ETok.size = 4 := rfl
 simp only [hz, Nat.zero_mul, Nat.add_zero] at p0 p1 p2 p3
 have hn0 : 0 < n := by rw [hnl]; simp
 have hne0 : ((n : Int) == 0) = false := by simp; omega
 have hsl : Sl ETok w (fun k => S k ∧ k < w.heap.size) (.slice (some ⟨b, off, none⟩) n c) (t :: ts) := hl.more ETok.ok fun k h1 h2 => ⟨h2, h1⟩
 have HL := hid hsl
 have HIH := hid ih
 have HNL := hid hnl
 have HK := hid hk
 clear hl hcell hz hsl ih hnl hk
 obtain ⟨tk, tn, tst, tm⟩ := t
 simp only at *
 have HTS := hid (show (∀ R, (∀ u ∈ (Tk.mk tk tn tst tm :: ts), u.s.size ≤ R) → tst.size ≤ R) ∧ (∀ P : Int → Prop, (∀ u ∈ (Tk.mk tk tn tst tm :: ts), P u.n) → P 0 → P 1 → P tn) from ⟨fun R h => h _ List.mem_cons_self, fun P h _ _ => h _ List.mem_cons_self⟩)
 generalize (Tk.mk tk tn tst tm :: ts) = tl at *
 obtain ⟨mk, hmk, hmk4⟩ : ∃ mk : Nat, (tm.toNat : Int) % 4 = mk ∧ mk ≤ 3 := ⟨tm.toNat % 4, by omega, by omega⟩
 obtain ⟨w0, hw0⟩ : ∃ w0, w0 = ((w.alloc (.cells #[.int .u8 0, .int .i64 0, .string ⟨#[]⟩, .slice none 0 0, .slice none 0 0] TVAL)).alloc (.cells #[U8 tk, .int .i64 tn, .string tst, U8 tm] TTOK)).alloc (.cells #[U8 tk, .int .i64 tn, .string tst, .slice none 0 0, .slice none 0 0] TVAL) := ⟨_, rfl⟩
 have hsz : w.heap.size + 3 ≤ w0.heap.size := by rw [hw0]; simp
 have hE0 : Ext w w0 := by rw [hw0]; exact (((Keep.refl _ _).alloc _).alloc _).alloc _
 have hb4 : Blk w0 w.heap.size TVAL #[.int .u8 0, .int .i64 0, .string ⟨#[]⟩, .slice none 0 0, .slice none 0 0] := by rw [hw0]; exact ((Blk.new _ _ _).alloc _).alloc _
 have hb6 : Blk w0 (w.heap.size + 1) TTOK #[U8 tk, .int .i64 tn, .string tst, U8 tm] := by
  have := (Blk.new (w.alloc (.cells #[.int .u8 0, .int .i64 0, .string ⟨#[]⟩, .slice none 0 0, .slice none 0 0] TVAL)) TTOK #[U8 tk, .int .i64 tn, .string tst, U8 tm]).alloc (.cells #[U8 tk, .int .i64 tn, .string tst, .slice none 0 0, .slice none 0 0] TVAL)
  rw [World.size_alloc] at this
  rw [hw0]; exact this
 have hb8 : Blk w0 (w.heap.size + 2) TVAL #[U8 tk, .int .i64 tn, .string tst, .slice none 0 0, .slice none 0 0] := by
  have := Blk.new ((w.alloc (.cells #[.int .u8 0, .int .i64 0, .string ⟨#[]⟩, .slice none 0 0, .slice none 0 0] TVAL)).alloc (.cells #[U8 tk, .int .i64 tn, .string tst, U8 tm] TTOK)) TVAL #[U8 tk, .int .i64 tn, .string tst, .slice none 0 0, .slice none 0 0]
  rw [World.size_alloc, World.size_alloc] at this
  rw [hw0]; exact this
 have HE0 := hid hE0
 have HB4 := hid hb4
 have HB6 := hid hb6
 have HB8 := hid hb8
 clear hE0 hb4 hb6 hb8
 go_enter Tryz.func52, Tryz.ntmps52
 go_wp2_with fail
 simp only [← hw0]
 clear hw0 p0 p1 p2 p3
 go_loopw [8, 9, 10, 11] (fun y i _ _ wr => ∃ (k j : Nat) (xs : List F) (lv : Value), y = .int .i64 k ∧ i = .int .u8 j ∧ j ≤ mk ∧ 1 ≤ k ∧ k ≤ n ∧ xs.length = j ∧ (F.sizes xs ≤ 4 * (k - 1) + j ∧ TokF tl xs) ∧
  Blk wr (w.heap.size + 2) TVAL #[U8 tk, .int .i64 tn, .string tst, .slice none 0 0, lv] ∧ Own EField wr w0.heap.size TFIELD (DS wr w0.heap.size lv) lv xs ∧ Keep (· = w.heap.size + 2) w0 wr) (fun _ i _ _ _ => mk - (intOf i).toNat)
 case atStart => exact ⟨1, 0, [], .slice none 0 0, rfl, rfl, by omega, by omega, by omega, rfl, ⟨by simp [V.sizes, F.sizes], TokF.nil _⟩, HB8.out, Own.nil _ _ _ _, Keep.refl _ _⟩
 case round =>
  obtain ⟨k, j, xs, lv, rfl, rfl, hj, hk1, hkn, hxl, hvs, hb8, hown, hkr⟩ := hrel
  obtain ⟨A3, c3, rfl, hl3, hc3⟩ := hown.shape
  have hb6r := HB6.out.keep hkr (by omega)
  have hb4r := HB4.out.keep hkr (by omega)
  have z3 : wr.cell? ⟨w.heap.size + 1, 3, none⟩ = some (U8 tm) := hb6r.cell 3
  have z0 : wr.cell? ⟨w.heap.size + 1, 0, none⟩ = some (U8 tk) := hb6r.cell 0
  obtain ⟨x0, x1, x2, x3, x4⟩ := blk5 hb8
  have hER : Ext w wr := HE0.out.trans hkr fun q hq e => by omega
  have HER := hid hER
  have HKR := hid hkr
  have HO := hid hown
  have HBX := hid hb8
  have HB4r := hid hb4r
  have HVS := hid (And.intro hvs hxl)
  clear hxl
  have hsR := hER.size
  have hsR0 := hkr.size
  by_cases hjm : j < mk ∧ d < 20
  ·obtain ⟨hjm, hdd⟩ := hjm
   clear hb4r hb6r hER hkr hown hb8 hvs
   obtain ⟨A2, r2, f2⟩ := tail_fact (P := Tryz.prog) ETok.ok ty_tok (HL.out.ext ETok.ok HER.out) (a := (k : Int)) (lo := k) rfl (by have := HNL.out; omega)
   have hcall := HIH.out (tl.drop k) (n - k) (d + 1) A2 (c - k) _ wr (by have := HNL.out; rw [List.length_drop]; omega) (by omega) (by omega) (by omega) f2
   have HC := hid hcall
   clear hcall f2
   go_wp2_with fail
   refine HC.out.mono ?_
   rintro e w5 ⟨u5, x, n5, rfl, hn5, _, hsz5, hva5, hE5⟩
   rw [List.length_drop] at hn5
   obtain ⟨lv5, ov5, rfl, hl5, ho5⟩ := hva5
   obtain ⟨A5, c5, rfl, _⟩ := hl5.shape
   obtain ⟨A6, c6, rfl, _⟩ := ho5.shape
   have hkn5 : k + n5 ≤ n := by have := HNL.out; omega
   have hE6 : Ext w5 (w5.alloc (.cells #[U8 x.kind, .int .i64 x.n, .string x.s, .slice A5 x.l.length c5, .slice A6 x.o.length c6] TVAL)) := (Keep.refl _ _).alloc _
   have hb8w := HBX.out.keep hE5 id
   by_cases hn50 : n5 = 0
   ·subst hn50
    have hat0 : Sl EField (w5.alloc (.cells #[U8 x.kind, .int .i64 x.n, .string x.s, .slice A5 x.l.length c5, .slice A6 x.o.length c6] TVAL)) (fun q => w0.heap.size ≤ q) (.slice A3 xs.length c3) xs := (((HO.out.sl EField.ok).more EField.ok fun q _ h => h.elim (fun h => h.1) fun h => (HO.out.lt h).1).ext EField.ok hE5).ext EField.ok hE6
    have hb4r := (HB4r.out.keep hE5 id).keep hE6 id
    have HERW := (HER.out.ext hE5).ext hE6
    replace x0 := ((hE5.ext hE6).cell (lt_of_cell x0) id).trans x0
    replace x1 := ((hE5.ext hE6).cell (lt_of_cell x1) id).trans x1
    replace x2 := ((hE5.ext hE6).cell (lt_of_cell x2) id).trans x2
    replace x3 := ((hE5.ext hE6).cell (lt_of_cell x3) id).trans x3
    replace x4 := ((hE5.ext hE6).cell (lt_of_cell x4) id).trans x4
    clear z0 z3 HC hl5 ho5 hE5 hE6 hb8w
    generalize hw6 : (w5.alloc (.cells #[U8 x.kind, .int .i64 x.n, .string x.s, .slice A5 x.l.length c5, .slice A6 x.o.length c6] TVAL)) = w6 at *
    have hbr := set5_to hb4r rfl (U8 tk) (.int .i64 tn) (.string tst) (.slice none 0 0) (.slice A3 xs.length c3)
    obtain ⟨t0, t1, t2, t3, t4⟩ := blk5 hbr
    have hk5 := set5_keep w6 w.heap.size 0 (U8 tk) (.int .i64 tn) (.string tst) (.slice none 0 0) (.slice A3 xs.length c3)
    have hat : VAt (set5 w6 w.heap.size 0 (U8 tk) (.int .i64 tn) (.string tst) (.slice none 0 0) (.slice A3 xs.length c3)) (fun q => w.heap.size ≤ q) (.agg #[U8 tk, .int .i64 tn, .string tst, .slice none 0 0, (.slice A3 xs.length c3)]) (.mk tk tn tst [] xs) := ⟨_, _, rfl, Sl.nil _ _, (hat0.keep EField.ok hk5 (fun q hq e => by omega)).more EField.ok fun q _ h => by omega⟩
    have HT := hid (And.intro t0 (And.intro t1 (And.intro t2 (And.intro t3 t4))))
    have HR := hid (show RawIsN w tl (.returned (.tuple #[.agg #[U8 tk, .int .i64 tn, .string tst, .slice none 0 0, (.slice A3 xs.length c3)], .int .i64 (k : Int)])) (set5 w6 w.heap.size 0 (U8 tk) (.int .i64 tn) (.string tst) (.slice none 0 0) (.slice A3 xs.length c3)) from
     ⟨_, (.mk tk tn tst [] xs), k, rfl, by have := HNL.out; omega, fun _ => hk1, ⟨by have := HVS.out.1; have := HVS.out.2; rw [V.size]; simp only [V.sizes, F.sizes]; omega, TokIs.mkF HTS.out HVS.out.1.2⟩, hat, HERW.trans hk5 fun q hq e => by omega⟩)
    obtain ⟨q0, q1, q2, q3, q4⟩ := blk5 hb4r
    obtain ⟨f0, f1, f2, f3, f4⟩ := sqf5 hb4r
    clear t0 t1 t2 t3 t4 hbr hat hk5 HERW hat0
    go_wp2
    obtain ⟨t0, t1, t2, t3, t4⟩ := HT.out
    change bodyPost _ _ _ _ _ (set5 w6 w.heap.size 0 (U8 tk) (.int .i64 tn) (.string tst) (.slice none 0 0) (.slice A3 xs.length c3))
    generalize (set5 w6 w.heap.size 0 (U8 tk) (.int .i64 tn) (.string tst) (.slice none 0 0) (.slice A3 xs.length c3)) = wz at *
    refine bodyPost_ret (v := .tuple #[.agg #[U8 tk, .int .i64 tn, .string tst, .slice none 0 0, (.slice A3 xs.length c3)], .int .i64 (k : Int)]) (by simp [results, Tryz.results52, go_sem, t0, t1, t2, t3, t4]) rfl HR.out
   ·have hn5X : ((n5 : Int) == 0) = false := by simp; omega
    have hE7 : Ext (w5.alloc (.cells #[U8 x.kind, .int .i64 x.n, .string x.s, .slice A5 x.l.length c5, .slice A6 x.o.length c6] TVAL)) ((w5.alloc (.cells #[U8 x.kind, .int .i64 x.n, .string x.s, .slice A5 x.l.length c5, .slice A6 x.o.length c6] TVAL)).alloc (.cells #[.string x.s, U8 x.kind, .int .i64 x.n, .string x.s, .slice A5 x.l.length c5, .slice A6 x.o.length c6] TFIELD)) := (Keep.refl _ _).alloc _
    have hOb := ((HO.out.ext EField.ok hE5).ext EField.ok hE6).ext EField.ok hE7
    have hRx := RowS.new (w := (w5.alloc (.cells #[U8 x.kind, .int .i64 x.n, .string x.s, .slice A5 x.l.length c5, .slice A6 x.o.length c6] TVAL))) (t := TFIELD) (sz := 6) (n := 1) (cs := [.string x.s, U8 x.kind, .int .i64 x.n, .string x.s, .slice A5 x.l.length c5, .slice A6 x.o.length c6]) rfl (by simp [maxLen]) (0, 0)
    rw [World.size_alloc] at hRx
    have hva6 : VAt ((w5.alloc (.cells #[U8 x.kind, .int .i64 x.n, .string x.s, .slice A5 x.l.length c5, .slice A6 x.o.length c6] TVAL)).alloc (.cells #[.string x.s, U8 x.kind, .int .i64 x.n, .string x.s, .slice A5 x.l.length c5, .slice A6 x.o.length c6] TFIELD)) (fun q => wr.heap.size ≤ q ∧ q < w5.heap.size) (.agg #[U8 x.kind, .int .i64 x.n, .string x.s, .slice A5 x.l.length c5, .slice A6 x.o.length c6]) x := VAt.ext (VAt.ext (VAt.more ⟨_, _, rfl, hl5, ho5⟩ fun q h1 h2 => ⟨h2, h1⟩) hE6) hE7
    have HDx := hid (Cells.single (E := EField) (show EField.rd _ _ _ (F.mk x.s x) from rdF_iff.2 ⟨_, rfl, hva6.rd⟩))
    have HOb := hid hOb
    have HRx := hid hRx
    have HE57 := hid ((hE5.ext hE6).ext hE7)
    have HZ5 := hid hE5.size
    have y3 : w5.cell? ⟨w.heap.size + 2, 4, none⟩ = some (.slice A3 xs.length c3) := hb8w.cell 4
    have y0 := (hE5.cell (lt_of_cell z0) id).trans z0
    have HB8w := hid ((hb8w.keep hE6 id).keep hE7 id)
    have hs5 : w.heap.size + 2 < w5.heap.size := hb8w.lt
    have hs5b : w.heap.size + 1 < w5.heap.size := by omega
    have hs5r := hE5.size
    have hkk := HK.out
    clear x0 x1 x2 x3 x4 z3 z0 HC hl5 ho5 hva6 hOb hRx hE5 hE6 hE7 hb8w
    go_wp2_with (at_builtin; refine wpList_own_append2 (ys := [(F.mk x.s x)]) _ rfl (.tmp 59) (.tmp 64) EField.ok ty_field rfl rfl rfl HOb.out HRx.out HDx.out ?d1 ?d2 ?d3 ?d4 ?_)
    case d1 => exact fun g hg => ⟨fun h => h.2.2 hg, fun h => by have := (HO.out.lt (show (Value.slice A3 xs.length c3).ownBlock = some g from hg)).2; omega⟩
    case d2 => have := HVS.out.2; simp only [List.length_singleton]; omega
    case d3 => have := HVS.out.2; simp only [List.length_singleton, maxLen]; omega
    case d4 => simp only [World.size_alloc]; omega
    intro v' w' hown' hk' hb'
    obtain ⟨A7, c7, hv7, hl7, hc7⟩ := hown'.shape
    rw [show (xs ++ [(F.mk x.s x)]).length = xs.length + 1 from by simp] at hv7
    subst hv7
    have hnb : ∀ g, (Value.slice A3 xs.length c3).ownBlock = some g → w0.heap.size ≤ g ∧ g < wr.heap.size := fun g hg => HO.out.lt hg
    have hb8n := HB8w.out.keep hk' (fun e => by have := (hnb _ e).1; omega)
    have y3' : w'.cell? ⟨w.heap.size + 2, 4, none⟩ = some (.slice A3 xs.length c3) := hb8n.cell 4
    have g3' := hb8n.frozen 4
    have hwz : w'.heap.size ≥ w5.heap.size + 2 := by have := hk'.size; simp at this; exact this
    have hbq : (Value.slice A7 (xs.length + 1) c7).ownBlock = (Value.slice A3 xs.length c3).ownBlock ∨ (Value.slice A7 (xs.length + 1) c7).ownBlock = some (w5.heap.size + 2) := by
     rcases hb' with h | h
     ·exact .inl h
     ·exact .inr (h.trans rfl)
    have ho2 : Own EField w' w0.heap.size TFIELD (DS w' w0.heap.size (.slice A7 (xs.length + 1) c7)) (.slice A7 (xs.length + 1) c7) (xs ++ [(F.mk x.s x)]) :=
     ds_next (N := w5.heap.size + 2) EField.ok hown' (by have := HZ5.out; omega) hwz (fun q h => ⟨h.1, by have := h.2; omega⟩) hsR0 (fun g hg => (hnb g hg).2) hbq
    have hset : Keep (· = w.heap.size + 2) w' (w'.setCell ⟨w.heap.size + 2, 4, none⟩ (.slice A7 (xs.length + 1) c7)) := Keep.setAt (Keep.refl (· = w.heap.size + 2) w') (fun _ => rfl) 4 _
    have ho3 : Own EField (w'.setCell ⟨w.heap.size + 2, 4, none⟩ (.slice A7 (xs.length + 1) c7)) w0.heap.size TFIELD (DS (w'.setCell ⟨w.heap.size + 2, 4, none⟩ (.slice A7 (xs.length + 1) c7)) w0.heap.size (.slice A7 (xs.length + 1) c7)) (.slice A7 (xs.length + 1) c7) (xs ++ [(F.mk x.s x)]) :=
     (ho2.keep EField.ok hset (fun q hq e => by have := hq.1; omega) (fun g hg e => by have := (ho2.lt hg).1; omega)).more EField.ok fun q _ h => ⟨h.1, Nat.lt_of_lt_of_le h.2.1 hset.size, h.2.2⟩
    have hblk : Blk (w'.setCell ⟨w.heap.size + 2, 4, none⟩ (.slice A7 (xs.length + 1) c7)) (w.heap.size + 2) TVAL #[U8 tk, .int .i64 tn, .string tst, .slice none 0 0, .slice A7 (xs.length + 1) c7] := hb8n.set_ 4 _
    have hkk2 : Keep (· = w.heap.size + 2) w0 (w'.setCell ⟨w.heap.size + 2, 4, none⟩ (.slice A7 (xs.length + 1) c7)) :=
     ((HKR.out.trans (HE57.out.mono fun _ _ x => x.elim) (fun _ _ h => h)).trans hk' (fun q hq e => by have := (hnb q e).1; omega)).trans hset (fun q _ e => e)
    have HREL := hid (And.intro hblk (And.intro ho3 hkk2))
    have HVS2 := hid (show F.sizes (xs ++ [(F.mk x.s x)]) ≤ 4 * (k + n5 - 1) + (j + 1) ∧ TokF tl (xs ++ [(F.mk x.s x)]) from ⟨by
     have := HVS.out.1
     rw [F.sizes_append]
     simp only [F.sizes, F.size]
     omega, TokF.snoc HVS.out.1.2 (hsz5.2.sub fun t ht => List.mem_of_mem_drop ht)⟩)
    have hlx : (xs ++ [(F.mk x.s x)]).length = j + 1 := by rw [List.length_append, HVS.out.2]; rfl
    have HLX := hid hlx
    clear hown' hk' hb' ho2 ho3 hset hblk hkk2 HO HOb HRx HDx HE57 HB8w HBX HVS HKR hbq hb8n hlx hnb hkk y0
    go_wp2
    exact ⟨⟨k + n5, j + 1, xs ++ [(F.mk x.s x)], _, by go_num, by go_num, by omega, by omega, by omega, HLX.out, HVS2.out, HREL.out.1, HREL.out.2.1, HREL.out.2.2⟩, by simp [intOf]; omega⟩
  ·have hat0 : Sl EField wr (fun q => w0.heap.size ≤ q) (.slice A3 xs.length c3) xs := (HO.out.sl EField.ok).more EField.ok fun q _ h => h.elim (fun h => h.1) fun h => (HO.out.lt h).1
   have HERW := HER.out
   clear hb6r hER hkr hown hb8 hvs
   by_cases hjm2 : j < mk
   ·have hdd : ¬ d < 20 := fun h => hjm ⟨hjm2, h⟩
    clear hjm
    have hbr := set5_to hb4r rfl (U8 tk) (.int .i64 tn) (.string tst) (.slice none 0 0) (.slice A3 xs.length c3)
    obtain ⟨t0, t1, t2, t3, t4⟩ := blk5 hbr
    have hk5 := set5_keep wr w.heap.size 0 (U8 tk) (.int .i64 tn) (.string tst) (.slice none 0 0) (.slice A3 xs.length c3)
    have hat : VAt (set5 wr w.heap.size 0 (U8 tk) (.int .i64 tn) (.string tst) (.slice none 0 0) (.slice A3 xs.length c3)) (fun q => w.heap.size ≤ q) (.agg #[U8 tk, .int .i64 tn, .string tst, .slice none 0 0, (.slice A3 xs.length c3)]) (.mk tk tn tst [] xs) := ⟨_, _, rfl, Sl.nil _ _, (hat0.keep EField.ok hk5 (fun q hq e => by omega)).more EField.ok fun q _ h => by omega⟩
    have HT := hid (And.intro t0 (And.intro t1 (And.intro t2 (And.intro t3 t4))))
    have HR := hid (show RawIsN w tl (.returned (.tuple #[.agg #[U8 tk, .int .i64 tn, .string tst, .slice none 0 0, (.slice A3 xs.length c3)], .int .i64 (k : Int)])) (set5 wr w.heap.size 0 (U8 tk) (.int .i64 tn) (.string tst) (.slice none 0 0) (.slice A3 xs.length c3)) from
     ⟨_, (.mk tk tn tst [] xs), k, rfl, by have := HNL.out; omega, fun _ => hk1, ⟨by have := HVS.out.1; have := HVS.out.2; rw [V.size]; simp only [V.sizes, F.sizes]; omega, TokIs.mkF HTS.out HVS.out.1.2⟩, hat, HERW.trans hk5 fun q hq e => by omega⟩)
    obtain ⟨q0, q1, q2, q3, q4⟩ := blk5 hb4r
    obtain ⟨f0, f1, f2, f3, f4⟩ := sqf5 hb4r
    clear t0 t1 t2 t3 t4 hbr hat hk5 HERW hat0
    go_wp2
    obtain ⟨t0, t1, t2, t3, t4⟩ := HT.out
    change bodyPost _ _ _ _ _ (set5 wr w.heap.size 0 (U8 tk) (.int .i64 tn) (.string tst) (.slice none 0 0) (.slice A3 xs.length c3))
    generalize (set5 wr w.heap.size 0 (U8 tk) (.int .i64 tn) (.string tst) (.slice none 0 0) (.slice A3 xs.length c3)) = wz at *
    refine bodyPost_ret (v := .tuple #[.agg #[U8 tk, .int .i64 tn, .string tst, .slice none 0 0, (.slice A3 xs.length c3)], .int .i64 (k : Int)]) (by simp [results, Tryz.results52, go_sem, t0, t1, t2, t3, t4]) rfl HR.out
   ·clear hjm
    have hbr := set5_to hb4r rfl (U8 tk) (.int .i64 tn) (.string tst) (.slice none 0 0) (.slice A3 xs.length c3)
    obtain ⟨t0, t1, t2, t3, t4⟩ := blk5 hbr
    have hk5 := set5_keep wr w.heap.size 0 (U8 tk) (.int .i64 tn) (.string tst) (.slice none 0 0) (.slice A3 xs.length c3)
    have hat : VAt (set5 wr w.heap.size 0 (U8 tk) (.int .i64 tn) (.string tst) (.slice none 0 0) (.slice A3 xs.length c3)) (fun q => w.heap.size ≤ q) (.agg #[U8 tk, .int .i64 tn, .string tst, .slice none 0 0, (.slice A3 xs.length c3)]) (.mk tk tn tst [] xs) := ⟨_, _, rfl, Sl.nil _ _, (hat0.keep EField.ok hk5 (fun q hq e => by omega)).more EField.ok fun q _ h => by omega⟩
    have HT := hid (And.intro t0 (And.intro t1 (And.intro t2 (And.intro t3 t4))))
    have HR := hid (show RawIsN w tl (.returned (.tuple #[.agg #[U8 tk, .int .i64 tn, .string tst, .slice none 0 0, (.slice A3 xs.length c3)], .int .i64 (k : Int)])) (set5 wr w.heap.size 0 (U8 tk) (.int .i64 tn) (.string tst) (.slice none 0 0) (.slice A3 xs.length c3)) from
     ⟨_, (.mk tk tn tst [] xs), k, rfl, by have := HNL.out; omega, fun _ => hk1, ⟨by have := HVS.out.1; have := HVS.out.2; rw [V.size]; simp only [V.sizes, F.sizes]; omega, TokIs.mkF HTS.out HVS.out.1.2⟩, hat, HERW.trans hk5 fun q hq e => by omega⟩)
    obtain ⟨q0, q1, q2, q3, q4⟩ := blk5 hb4r
    obtain ⟨f0, f1, f2, f3, f4⟩ := sqf5 hb4r
    clear t0 t1 t2 t3 t4 hbr hat hk5 HERW hat0
    go_wp2
    obtain ⟨t0, t1, t2, t3, t4⟩ := HT.out
    change bodyPost _ _ _ _ _ (set5 wr w.heap.size 0 (U8 tk) (.int .i64 tn) (.string tst) (.slice none 0 0) (.slice A3 xs.length c3))
    generalize (set5 wr w.heap.size 0 (U8 tk) (.int .i64 tn) (.string tst) (.slice none 0 0) (.slice A3 xs.length c3)) = wz at *
    refine bodyPost_ret (v := .tuple #[.agg #[U8 tk, .int .i64 tn, .string tst, .slice none 0 0, (.slice A3 xs.length c3)], .int .i64 (k : Int)]) (by simp [results, Tryz.results52, go_sem, t0, t1, t2, t3, t4]) rfl HR.out
theorem raw_uptoN : ∀ m, m ≤ 60 → RawUptoN m := by
 intro m
 induction m with
 | zero =>
  intro _ ts n d A c S w hn hle h0 h6 hl
  have : ts = [] := List.eq_nil_of_length_eq_zero (by omega)
  subst this
  obtain rfl : n = 0 := by simpa using hn
  exact raw_nilN A c d w
 | succ m ih =>
  intro hm ts n d A c S w hn hle h0 h6 hl
  cases ts with
  | nil =>
   obtain rfl : n = 0 := by simpa using hn
   exact raw_nilN A c d w
  | cons t ts =>
   by_cases h4 : (t.kind.toNat : Int) % 2 = 0
   ·exact raw_listN m (ih (by omega)) t ts n A c d S w hn hl hle hm h0 h6 h4
   ·exact raw_objN m (ih (by omega)) t ts n A c d S w hn hl hle hm h0 h6 (by omega)
def RawAll2IsN (ts : List Tk) (w : World) (e : Ending) (w' : World) : Prop := ∃ u x, e = .returned u ∧ (x.size ≤ 241 ∧ TokIs ts x) ∧ VAt w' (fun q => w.heap.size ≤ q) u x ∧ Ext w w'
theorem rawall2_okN (ts : List Tk) (v : Value) (S : BS) (w : World) (hl : Sl ETok w S v ts) : Calls Tryz.prog 24 #[v] w (RawAll2IsN ts w) := by
 obtain ⟨A, c, rfl, hlc, hcm⟩ := hl.shape
 obtain ⟨m, hm⟩ : ∃ m, m = min ts.length 60 := ⟨_, rfl⟩
 have hmn : m ≤ ts.length := by omega
 have hm60 : m ≤ 60 := by omega
 have hmin : ∀ w, (Builtin.min_ #[3, 3] 3 #[.int .i64 (ts.length : Int), .int .i64 60]).run Tryz.prog w = .ok (.int .i64 (m : Int)) w := fun w => by
  rw [run_min_int2]
  have : ((m : Nat) : Int) = if (60 : Int) < (ts.length : Int) then (60 : Int) else (ts.length : Int) := by split <;> omega
  rw [this]
 obtain ⟨r1, f1⟩ := front_fact (P := Tryz.prog) ETok.ok ty_tok hl (b := (m : Int)) rfl hmn
 have hE0 : Ext w (w.alloc (.cells #[.int .u8 0, .int .i64 0, .string ⟨#[]⟩, .slice none 0 0, .slice none 0 0] TVAL)) := (Keep.refl _ _).alloc _
 have hb : Blk (w.alloc (.cells #[.int .u8 0, .int .i64 0, .string ⟨#[]⟩, .slice none 0 0, .slice none 0 0] TVAL)) w.heap.size TVAL #[.int .u8 0, .int .i64 0, .string ⟨#[]⟩, .slice none 0 0, .slice none 0 0] := Blk.new _ _ _
 have HC := hid (fun w1 (h : Ext w w1) => raw_uptoN 60 (Nat.le_refl _) (ts.take m) m 0 A c S w1 (by rw [List.length_take]; omega) hm60 (by omega) (by omega) (f1.ext ETok.ok h))
 have HM := hid (show (ts.take m).length ≤ 60 ∧ ∀ t ∈ ts.take m, t ∈ ts from ⟨by rw [List.length_take]; omega, fun t ht => List.mem_of_mem_take ht⟩)
 generalize ts.take m = tm at *
 have HE0 := hid hE0
 have HB := hid hb
 clear hl f1 hE0 hb hm
 go_enter Tryz.func24, Tryz.ntmps24
 go_wp2_with fail
 generalize w.alloc (.cells #[.int .u8 0, .int .i64 0, .string ⟨#[]⟩, .slice none 0 0, .slice none 0 0] TVAL) = w1 at *
 refine (HC.out w1 HE0.out).mono ?_
 rintro e w5 ⟨u5, x, n5, rfl, hn5, _, hsz5, hva5, hE5⟩
 obtain ⟨lv5, ov5, rfl, hl5, ho5⟩ := hva5
 obtain ⟨A5, c5, rfl, _⟩ := hl5.shape
 obtain ⟨A6, c6, rfl, _⟩ := ho5.shape
 have hb1 := HB.out.keep hE5 id
 have hw : w.heap.size < w1.heap.size := HB.out.lt
 have hat : VAt w5 (fun q => w1.heap.size ≤ q) (.agg #[U8 x.kind, .int .i64 x.n, .string x.s, .slice A5 x.l.length c5, .slice A6 x.o.length c6]) x := ⟨_, _, rfl, hl5, ho5⟩
 have hk5 := set5_keep w5 w.heap.size 0 (U8 x.kind) (.int .i64 x.n) (.string x.s) (.slice A5 x.l.length c5) (.slice A6 x.o.length c6)
 have hbr := set5_to hb1 rfl (U8 x.kind) (.int .i64 x.n) (.string x.s) (.slice A5 x.l.length c5) (.slice A6 x.o.length c6)
 obtain ⟨t0, t1, t2, t3, t4⟩ := blk5 (hbr.alloc (.cells #[U8 x.kind, .int .i64 x.n, .string x.s, .slice A5 x.l.length c5, .slice A6 x.o.length c6] TVAL))
 have HT := hid (And.intro t0 (And.intro t1 (And.intro t2 (And.intro t3 t4))))
 have HR := hid (show RawAll2IsN ts w (.returned (.agg #[U8 x.kind, .int .i64 x.n, .string x.s, .slice A5 x.l.length c5, .slice A6 x.o.length c6])) ((set5 w5 w.heap.size 0 (U8 x.kind) (.int .i64 x.n) (.string x.s) (.slice A5 x.l.length c5) (.slice A6 x.o.length c6)).alloc (.cells #[U8 x.kind, .int .i64 x.n, .string x.s, .slice A5 x.l.length c5, .slice A6 x.o.length c6] TVAL)) from
  ⟨_, x, rfl, ⟨by have := HM.out.1; have := hsz5.1; omega, hsz5.2.sub HM.out.2⟩, ((hat.keep hk5 fun q hq e => by omega).more fun q _ h => by omega).ext ((Keep.refl _ _).alloc _), ((HE0.out.ext hE5).trans hk5 fun q hq e => by omega).alloc _⟩)
 obtain ⟨q0, q1, q2, q3, q4⟩ := blk5 hb1
 obtain ⟨f0, f1, f2, f3, f4⟩ := sqf5 hb1
 have hw5 : w.heap.size < w5.heap.size := hb1.lt
 clear t0 t1 t2 t3 t4 hat hk5 hbr hb1 hE5 hl5 ho5 HC
 go_wp2
 obtain ⟨t0, t1, t2, t3, t4⟩ := HT.out
 refine bodyPost_ret (v := .agg #[U8 x.kind, .int .i64 x.n, .string x.s, .slice A5 x.l.length c5, .slice A6 x.o.length c6]) (by simp [results, Tryz.results24, go_sem, t0, t1, t2, t3, t4]) rfl HR.out
end Go.Proofs.YtihaliffcobacaaGreatDoor
