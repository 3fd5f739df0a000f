/- SnapE2, DiskO, DiskM, DiskP: laid together. -/
import Derived.Test.YtihaliffcobacaaGreatDoorSbB24
import Derived.Test.YtihaliffcobacaaGreatDoorSbB26
import Derived.Test.YtihaliffcobacaaGreatDoorSbB27
import Derived.Test.YtihaliffcobacaaGreatDoorSbB20
import Derived.Test.YtihaliffcobacaaGreatDoorSbB21
import Derived.Test.YtihaliffcobacaaGreatDoorSbB1
set_option linter.unusedSimpArgs false
set_option linter.unusedVariables false
set_option maxHeartbeats 25600000
set_option maxRecDepth 20000
namespace Go.Proofs.YtihaliffcobacaaGreatDoor
open Go.RowKit
def RawOf (r : Rs) (s : Sh) : Prop := s.n = r.n ∧ s.there = r.there ∧ (s.v.size ≤ 241 ∧ TokIs r.v s.v)
def ShotRIs (w : World) (r : Rs) (e : Ending) (w' : World) : Prop := ∃ u s, e = .returned u ∧ ShVal w' (fun q => w.heap.size ≤ q) u s ∧ RawOf r s ∧ Ext w w'
set_option maxRecDepth 100000 in
theorem shotr_ok (r : Rs) (hr : r.raw = true) (w : World) (S : BS) (A : Option Addr) (c : Nat) (hv : Sl ETok w S (.slice A r.v.length c) r.v) :
  Calls Tryz.prog 9 #[.agg #[.int .i64 r.n, .bool r.there, .bool r.raw, .slice A r.v.length c]] w (ShotRIs w r) := by
 obtain ⟨n, th, raw, ts⟩ := r
 simp only at hr hv ⊢
 subst hr
 have HV := hid hv
 clear hv
 go_enter Tryz.func9, Tryz.ntmps9
 go_wp2_with fail
 obtain ⟨W0, hW0⟩ : ∃ W0, ((w.alloc (.cells #[.int .i64 n, .bool th, .bool true, .slice A ts.length c] TREC15)).alloc (.cells #[.int .i64 0, .bool false, .int .u8 0, .int .i64 0, .string ⟨#[]⟩, .slice none 0 0, .slice none 0 0] TSHOT)).alloc (.cells #[.int .i64 n, .bool th, .int .u8 0, .int .i64 0, .string ⟨#[]⟩, .slice none 0 0, .slice none 0 0] TSHOT) = W0 := ⟨_, rfl⟩
 have hE0 : Ext w W0 := by rw [← hW0]; exact (((Keep.refl _ _).alloc _).alloc _).alloc _
 have hb1 : Blk W0 (w.heap.size + 1) TSHOT #[.int .i64 0, .bool false, .int .u8 0, .int .i64 0, .string ⟨#[]⟩, .slice none 0 0, .slice none 0 0] := by
  have := (Blk.new (w.alloc (.cells #[.int .i64 n, .bool th, .bool true, .slice A ts.length c] TREC15)) TSHOT #[.int .i64 0, .bool false, .int .u8 0, .int .i64 0, .string ⟨#[]⟩, .slice none 0 0, .slice none 0 0]).alloc (.cells #[.int .i64 n, .bool th, .int .u8 0, .int .i64 0, .string ⟨#[]⟩, .slice none 0 0, .slice none 0 0] TSHOT)
  rw [World.size_alloc] at this
  rw [← hW0]; exact this
 have hb2 : Blk W0 (w.heap.size + 1 + 1) TSHOT #[.int .i64 n, .bool th, .int .u8 0, .int .i64 0, .string ⟨#[]⟩, .slice none 0 0, .slice none 0 0] := by
  have := Blk.new ((w.alloc (.cells #[.int .i64 n, .bool th, .bool true, .slice A ts.length c] TREC15)).alloc (.cells #[.int .i64 0, .bool false, .int .u8 0, .int .i64 0, .string ⟨#[]⟩, .slice none 0 0, .slice none 0 0] TSHOT)) TSHOT #[.int .i64 n, .bool th, .int .u8 0, .int .i64 0, .string ⟨#[]⟩, .slice none 0 0, .slice none 0 0]
  rw [World.size_alloc, World.size_alloc] at this
  rw [← hW0]; exact this
 change Calls _ _ _ (((w.alloc (.cells #[.int .i64 n, .bool th, .bool true, .slice A ts.length c] TREC15)).alloc (.cells #[.int .i64 0, .bool false, .int .u8 0, .int .i64 0, .string ⟨#[]⟩, .slice none 0 0, .slice none 0 0] TSHOT)).alloc (.cells #[.int .i64 n, .bool th, .int .u8 0, .int .i64 0, .string ⟨#[]⟩, .slice none 0 0, .slice none 0 0] TSHOT)) _
 rw [hW0]
 refine (rawall2_okN ts _ S W0 (HV.out.ext ETok.ok hE0)).mono ?_
 rintro e w1 ⟨u, x, rfl, hx1, hu, hE1⟩
 obtain ⟨lv, ov, rfl, hl1, ho1⟩ := hu
 obtain ⟨A4, c4, rfl, _⟩ := hl1.shape
 obtain ⟨A5, c5, rfl, _⟩ := ho1.shape
 have HXX := hid hx1
 have HB1 := hid (hb1.keep hE1 id)
 have HB2 := hid (hb2.keep hE1 id)
 have HE1 := hid (hE0.ext hE1)
 have hz0 : w.heap.size + 2 < W0.heap.size := hb2.lt
 have HVX := hid (show VAt w1 (fun q => W0.heap.size ≤ q) (.agg #[U8 x.kind, .int .i64 x.n, .string x.s, .slice A4 x.l.length c4, .slice A5 x.o.length c5]) x from ⟨_, _, rfl, hl1, ho1⟩)
 obtain ⟨y0, y1, y2, y3, y4, y5, y6⟩ := blk7s HB2.out
 obtain ⟨f0, f1, f2, f3, f4, f5, f6⟩ := frz7s HB2.out
 clear hW0 hE0 hb1 hb2 hx1 hE1 hl1 ho1
 go_upto_region 6 with fail
 obtain ⟨W2, hW2⟩ : ∃ W2, ((((w1.setCell ⟨w.heap.size + 1 + 1, 2, none⟩ (U8 x.kind)).setCell ⟨w.heap.size + 1 + 1, 3, none⟩ (.int .i64 x.n)).setCell ⟨w.heap.size + 1 + 1, 4, none⟩ (.string x.s)).setCell ⟨w.heap.size + 1 + 1, 5, none⟩ (.slice A4 x.l.length c4)).setCell ⟨w.heap.size + 1 + 1, 6, none⟩ (.slice A5 x.o.length c5) = W2 := ⟨_, rfl⟩
 have hk2 : Keep (· = w.heap.size + 1 + 1) w1 W2 := by rw [← hW2]; exact (((((Keep.refl (· = w.heap.size + 1 + 1) w1).set1 2 _).set1 3 _).set1 4 _).set1 5 _).set1 6 _
 have hb3 : Blk W2 (w.heap.size + 1 + 1) TSHOT #[.int .i64 n, .bool th, U8 x.kind, .int .i64 x.n, .string x.s, .slice A4 x.l.length c4, .slice A5 x.o.length c5] := by
  rw [← hW2]
  have := ((((HB2.out.set_ 2 (U8 x.kind)).set_ 3 (.int .i64 x.n)).set_ 4 (.string x.s)).set_ 5 (.slice A4 x.l.length c4)).set_ 6 (.slice A5 x.o.length c5)
  simpa using this
 have hb4 := HB1.out.keep hk2 (by omega)
 change Code.wp _ _ _ _ (((((w1.setCell ⟨w.heap.size + 1 + 1, 2, none⟩ (U8 x.kind)).setCell ⟨w.heap.size + 1 + 1, 3, none⟩ (.int .i64 x.n)).setCell ⟨w.heap.size + 1 + 1, 4, none⟩ (.string x.s)).setCell ⟨w.heap.size + 1 + 1, 5, none⟩ (.slice A4 x.l.length c4)).setCell ⟨w.heap.size + 1 + 1, 6, none⟩ (.slice A5 x.o.length c5))
 rw [hW2]
 clear y0 y1 y2 y3 y4 y5 y6 f0 f1 f2 f3 f4 f5 f6 hW2
 obtain ⟨y0, y1, y2, y3, y4, y5, y6⟩ := blk7s hb3
 obtain ⟨r0, r1, r2, r3, r4, r5, r6⟩ := blk7s hb4
 obtain ⟨f0, f1, f2, f3, f4, f5, f6⟩ := frz7s hb4
 have HB4 := hid hb4
 have HE2 := hid (HE1.out.trans hk2 fun q hq e => by omega)
 have HV2 := hid (HVX.out.keep hk2 fun q hq e => by omega)
 clear hb3 hb4 hk2
 go_wp2
 obtain ⟨W9, hW9⟩ : ∃ W9, set7 W2 (w.heap.size + 1) (.int .i64 n) (.bool th) (U8 x.kind) (.int .i64 x.n) (.string x.s) (.slice A4 x.l.length c4) (.slice A5 x.o.length c5) = W9 := ⟨_, rfl⟩
 have hk9 : Keep (· = w.heap.size + 1) W2 W9 := by rw [← hW9]; exact set7_keep _ _ _ _ _ _ _ _ _
 have hb9 : Blk W9 (w.heap.size + 1) TSHOT #[.int .i64 n, .bool th, U8 x.kind, .int .i64 x.n, .string x.s, .slice A4 x.l.length c4, .slice A5 x.o.length c5] := by rw [← hW9]; exact set7_to HB4.out _ _ _ _ _ _ _
 have HR := hid (show ShotRIs w ⟨n, th, true, ts⟩ (.returned (.agg #[.int .i64 n, .bool th, U8 x.kind, .int .i64 x.n, .string x.s, .slice A4 x.l.length c4, .slice A5 x.o.length c5])) W9 from
  ⟨_, ⟨n, th, x⟩, rfl, ⟨_, _, _, _, _, rfl, (HV2.out.keep hk9 fun q hq e => by omega).more fun q _ h => by omega⟩, ⟨rfl, rfl, HXX.out⟩, HE2.out.trans hk9 fun q hq e => by omega⟩)
 obtain ⟨t0, t1, t2, t3, t4, t5, t6⟩ := blk7s hb9
 change bodyPost _ _ _ _ _ (set7 W2 (w.heap.size + 1) (.int .i64 n) (.bool th) (U8 x.kind) (.int .i64 x.n) (.string x.s) (.slice A4 x.l.length c4) (.slice A5 x.o.length c5))
 rw [hW9]
 clear hW9 hk9 hb9 y0 y1 y2 y3 y4 y5 y6 r0 r1 r2 r3 r4 r5 r6 f0 f1 f2 f3 f4 f5 f6
 refine bodyPost_ret (v := .agg #[.int .i64 n, .bool th, U8 x.kind, .int .i64 x.n, .string x.s, .slice A4 x.l.length c4, .slice A5 x.o.length c5]) (by simp [results, Tryz.results9, go_sem, t0, t1, t2, t3, t4, t5, t6]) rfl HR.out
def AnyOf (r : Rs) (s : Sh) : Prop := s.n = r.n ∧ s.there = r.there ∧ Wide s.v ∧ NAll N64 s.v
def ShotAIs (w : World) (r : Rs) (e : Ending) (w' : World) : Prop := ∃ u s, e = .returned u ∧ ShVal w' (fun q => w.heap.size ≤ q) u s ∧ AnyOf r s ∧ Ext w w'
theorem tk_n64 {ts : List Tk} (h : ∀ t ∈ ts, TkF t) {x : V} (hx : NumT ts x) : NAll N64 x := hx N64 (fun t ht => by
 have hw := (h t ht).2
 simp [Lit.wf, IntKind.min, IntKind.max, IntKind.signed, IntKind.bits] at hw
 exact ⟨by omega, by omega⟩) ⟨by decide, by decide⟩ ⟨by decide, by decide⟩
theorem shot_any (r : Rs) (hF : RsF r) (w : World) (S : BS) (A : Option Addr) (c : Nat) (hv : Sl ETok w S (.slice A r.v.length c) r.v) :
  Calls Tryz.prog 9 #[.agg #[.int .i64 r.n, .bool r.there, .bool r.raw, .slice A r.v.length c]] w (ShotAIs w r) := by
 cases hr : r.raw with
 | true =>
  have := shotr_ok r hr w S A c hv
  rw [hr] at this
  refine this.mono ?_
  rintro e w' ⟨u, s, h1, h2, ⟨h3, h4, h5, h6⟩, h7⟩
  have hstr : VStr reachBytes s.v := h6.1 _ fun t ht => (hF.2 t ht).1
  have hwz := weight_size s.v hstr
  have hm : s.v.size * (1 + 2 * reachBytes) ≤ 241 * (1 + 2 * reachBytes) := Nat.mul_le_mul_right _ h5
  unfold reachBytes at hm hwz
  exact ⟨u, s, h1, h2, ⟨h3, h4, ⟨by omega, VStr.mono (by unfold BigR reachBytes; decide) s.v hstr, by omega⟩, tk_n64 hF.2 h6.2⟩, h7⟩
 | false =>
  have := shot_ok r hr w S A c hv
  rw [hr] at this
  refine this.mono ?_
  rintro e w' ⟨u, s, h1, h2, h3, h7⟩
  refine ⟨u, s, h1, h2, ⟨h3.1, h3.2.1, sh_wide h3, ?_⟩, h7⟩
  cases ht : r.there with
  | false => rw [h3.2.2.1 ht]; exact zV_n64
  | true => exact tk_n64 hF.2 (h3.2.2.2 ht).2.2.1
end Go.Proofs.YtihaliffcobacaaGreatDoor
namespace Go.Proofs.YtihaliffcobacaaGreatDoor
open Go.RowKit Go.Maps
def delC (cs : List DC) (name : List UInt8) : List DC := cs.filter fun c => !(c.name == name)
theorem usedC_del (cs : List DC) (name : List UInt8) : usedC (delC cs name) ≤ usedC cs := by
 unfold delC
 induction cs with
 | nil => exact Nat.le_refl _
 | cons x r ih =>
  rw [List.filter_cons]
  split
  ·rw [usedC_cons, usedC_cons]; omega
  ·rw [usedC_cons]; omega
theorem DOk.setLeft {cs : List DC} {s : DSt} (h : DOk cs s) {x : Int} (hx : -1 ≤ x ∧ x ≤ 9223372036854775807) : DOk cs { s with left := x } := ⟨h.room, h.used, h.many, h.names, hx⟩
theorem DOk.del {cs : List DC} {s : DSt} (h : DOk cs s) (name : List UInt8) : DOk (delC cs name) s :=
 ⟨h.room, Nat.le_trans (usedC_del cs name) h.used, Nat.le_trans (List.length_filter_le _ _) h.many, fun c hc => h.names c ((List.mem_filter.1 hc).1), h.left⟩
def HaltIs (w : World) (B : BS) (d : Nat) (cs : List DC) (s : DSt) (n : Int) (e : Ending) (w' : World) : Prop := e = .returned (.tuple #[]) ∧ DiskIs w' B d cs { s with left := max n (-1) } ∧ Keep B w w'
theorem disk_halt (w : World) (B : BS) (d : Nat) (cs : List DC) (s : DSt) (n : Int) (hn : (Lit.int .i64 n).wf = true) (h : DiskIs w B d cs s) :
  Calls Tryz.prog 18 #[.pointer (some ⟨d, 0, none⟩), .int .i64 n] w (HaltIs w B d cs s n) := by
 obtain ⟨h0, m, fs, hd, rfl⟩ := h
 obtain ⟨_, _, _, c3⟩ := hd.cells
 have hz := hd.blk.frozen 3
 have HD := hid hd
 have HO := hid (h0.setLeft (x := max n (-1)) (by have := bounds_int hn; omega))
 clear h0 hd hn
 go_enter Tryz.func18, Tryz.ntmps18
 go_wp2_with fail
 refine (i64_store d 3 s.left (max n (-1)) w c3 hz).mono ?_
 rintro e w1 ⟨rfl, rfl⟩
 have HK := hid (show Keep B w (w.setCell ⟨d, 3, none⟩ (.int .i64 (max n (-1)))) from ((Keep.refl (· = d) w).set1 3 _).mono fun k _ e => by subst e; exact HD.out.own)
 clear c3 hz
 go_wp2
 go_end0
 exact ⟨rfl, ⟨HO.out, m, fs, HD.out.setLeft _, rfl⟩, HK.out⟩
theorem disk_halted (w : World) (B : BS) (d : Nat) (cs : List DC) (s : DSt) (h : DiskIs w B d cs s) :
  Calls Tryz.prog 46 #[.pointer (some ⟨d, 0, none⟩)] w fun e w' => e = .returned (.bool (s.left == 0)) ∧ w = w' := by
 obtain ⟨h0, m, fs, hd, rfl⟩ := h
 obtain ⟨_, _, _, c3⟩ := hd.cells
 clear h0 hd
 go_enter Tryz.func46, Tryz.ntmps46
 go_wp2_with fail
 refine (i64_load d 3 s.left w c3).mono ?_
 rintro e w1 ⟨rfl, rfl⟩
 go_wp2
 go_ret
 exact ⟨rfl, rfl⟩
def dropR (cs : List DC) (s : DSt) (name : List UInt8) : Int × List DC := if goesC s.left = false then (130, cs) else if hasC cs name then (0, delC cs name) else (131, cs)
end Go.Proofs.YtihaliffcobacaaGreatDoor
namespace Go.Proofs.YtihaliffcobacaaGreatDoor
open Go.RowKit Go.Maps
def MutIs (w : World) (A : Option Addr) (n : Nat) : Prop := 0 < n → ∃ g cur, A = some ⟨g, 0, none⟩ ∧ Blk w g 5 cur ∧ ∀ j, j < n → ∃ z : Int, cur[j]? = some (.int .u8 z)
theorem MutIs.keep {F : Nat → Prop} {w w' : World} {A : Option Addr} {n : Nat} (h : MutIs w A n) (hk : Keep F w w') (hF : ∀ g, A = some ⟨g, 0, none⟩ → ¬ F g) : MutIs w' A n := by
 intro h0
 obtain ⟨g, cur, e, h1, h2⟩ := h h0
 exact ⟨g, cur, e, h1.keep hk (hF g e), h2⟩
theorem MutIs.store {w : World} {g n : Nat} {cur : Array Value} (h1 : Blk w g 5 cur) (h2 : ∀ j, j < n → ∃ z : Int, cur[j]? = some (.int .u8 z)) (i : Nat) (z : Int) : MutIs (w.setCell ⟨g, i, none⟩ (.int .u8 z)) (some ⟨g, 0, none⟩) n := by
 intro _
 refine ⟨g, _, rfl, h1.set_ i _, fun j hj => ?_⟩
 obtain ⟨y, hy⟩ := h2 j hj
 by_cases e : i = j
 ·subst e
  have := (Array.getElem?_eq_some_iff.1 hy).1
  exact ⟨z, by simp [this]⟩
 ·exact ⟨y, by rw [Array.getElem?_setIfInBounds_ne e]; exact hy⟩
theorem DskW.other {F : Nat → Prop} {w0 w w' : World} {B : BS} {d : Nat} {cs : List DC} {s : DSt} (h : DskW w0 w B d cs s) (hk : Keep F w w') (hB : ∀ k, B k → ¬ F k) (hF : ∀ k, F k → w0.heap.size ≤ k) : DskW w0 w' B d cs s :=
 ⟨h.is.keep hk hB, fun k hb => ⟨(h.low k hb).1, Nat.lt_of_lt_of_le (h.low k hb).2 hk.size⟩, h.ext.trans hk fun k hk hf => by have := hF k hf; omega⟩
end Go.Proofs.YtihaliffcobacaaGreatDoor
namespace Go.Proofs.YtihaliffcobacaaGreatDoor
open Go.RowKit Go.Maps
def namesC (cs : List DC) : List ByteArray := ((cs.map DC.name).mergeSort fun x y => decide (x ≤ y)).map textOf
def NamesIs (w : World) (cs : List DC) (e : Ending) (w' : World) : Prop := ∃ v, e = .returned v ∧ Sl EStr w' (fun q => w.heap.size ≤ q) v (namesC cs) ∧ Ext w w'
def NamesAll : Prop := ∀ (w : World) (B : BS) (d : Nat) (cs : List DC) (s : DSt), DiskIs w B d cs s → Calls Tryz.prog 42 #[.pointer (some ⟨d, 0, none⟩)] w (NamesIs w cs)
structure DOp where
 kind : UInt8
 name : ByteArray
 b : List UInt8
 n : Int
def EDOp : El DOp := { size := 4, rd := fun w S cs o => ∃ bv, cs = [U8 o.kind, .string o.name, bv, .int .i64 o.n] ∧ BytesS w S bv o.b }
theorem EDOp.ok : EDOp.Ok where
 pos := by decide
 len := fun ⟨_, h, _⟩ => by subst h; rfl
 one := fun ⟨bv, h, hs⟩ u hu => by
  subst h
  obtain ⟨A, c, rfl, _⟩ := hs.shape
  simp at hu
  rcases hu with rfl | rfl | rfl | rfl <;> rfl
 keep := fun ⟨bv, h, hs⟩ hk hF => ⟨bv, h, hs.keep EU8.ok hk hF⟩
 more := fun ⟨bv, h, hs⟩ hS => ⟨bv, h, hs.more EU8.ok hS⟩
end Go.Proofs.YtihaliffcobacaaGreatDoor
