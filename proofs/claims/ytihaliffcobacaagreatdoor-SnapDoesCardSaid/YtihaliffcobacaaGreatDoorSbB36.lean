/- RdrV: laid together. -/
import Derived.Test.YtihaliffcobacaaGreatDoorSbB35
import Derived.Test.YtihaliffcobacaaGreatDoorSbB23
set_option linter.unusedSimpArgs false
set_option linter.unusedVariables false
set_option maxHeartbeats 25600000
set_option maxRecDepth 20000
namespace Go.Proofs.YtihaliffcobacaaGreatDoor
open Go.RowKit
theorem rmany2_ok (w : World) (S : BS) (b : Nat) (n k : Nat) (r : List UInt8) (hk : k ≤ 4) (hn : n < 256 ^ k) (hr : n ≤ r.length) (h : RrAt w S b (beN n k ++ r)) :
  Calls Tryz.prog 124 #[.pointer (some ⟨b, 0, none⟩), .int .i64 k] w fun e w' => e = .returned (.int .i64 (n : Int)) ∧ RrAt w' S b r ∧ Keep (· = b) w w' := by
 have h1 : deN ((beN n k ++ r).take k) = n := by rw [take_app (beN_len n k), deN_beN, Nat.mod_eq_of_lt hn]
 have h2 : (beN n k ++ r).drop k = r := drop_app (beN_len n k)
 have := rmany_ok w S b _ k (by omega) h (by rw [List.length_append, beN_len]; omega) (by rw [h1, h2]; exact hr)
 rw [h1, h2] at this
 exact this
theorem rtxt2_ok (w : World) (S : BS) (b : Nat) (s : ByteArray) (r : List UInt8) (hs : s.size < 4294967296) (h : RrAt w S b (encT s ++ r)) :
  Calls Tryz.prog 123 #[.pointer (some ⟨b, 0, none⟩)] w fun e w' => e = .returned (.string s) ∧ RrAt w' S b r ∧ Keep (· = b) w w' := by
 unfold encT at h
 rw [List.append_assoc] at h
 have h1 : deN ((beN s.size 4 ++ (byt s ++ r)).take 4) = s.size := by rw [take_app (beN_len _ 4), deN_beN, Nat.mod_eq_of_lt (Nat.lt_of_lt_of_le hs (by decide))]
 have h2 : (beN s.size 4 ++ (byt s ++ r)).drop 4 = byt s ++ r := drop_app (beN_len _ 4)
 have := rtxt_ok w S b _ h (by rw [List.length_append, beN_len]; omega) (by rw [h1, h2, List.length_append, byt_len]; omega)
 rw [h1, h2, take_app (byt_len s), drop_app (byt_len s), show textOf (byt s) = s from rfl] at this
 exact this
def RvIs (w : World) (S : BS) (b : Nat) (r : List UInt8) (x : V) (e : Ending) (w' : World) : Prop := ∃ u, e = .returned u ∧ VAt w' (fun q => w.heap.size ≤ q) u x ∧ RrAt w' S b r ∧ Keep (· = b) w w'
set_option maxRecDepth 100000 in
theorem rvread_ok : ∀ (m : Nat) (x : V), x.size ≤ m → Can x → ∀ (w : World) (S : BS) (b : Nat) (d : Int) (r : List UInt8), RrAt w S b (encV x ++ r) → (∀ q, S q → q < w.heap.size) → 0 ≤ d → d + x.deep ≤ 17 → (encV x ++ r).length ≤ 4000000000 →
  Calls Tryz.prog 96 #[.pointer (some ⟨b, 0, none⟩), .int .i64 d] w (RvIs w S b r x) := by
 intro m
 induction m with
 | zero => intro x h; have := x.size_pos; omega
 | succ m ih =>
 intro x hsz hcan w S b d r hr hSl hd0 hd hlen
 have HSL := hid hSl
 have HIH := hid ih
 have HLM := hid (fun (z : V) (hz : z ∈ x.l) => (by have := V.size_eq x; have := V.sizes_mem hz; omega : z.size ≤ m))
 have HOM := hid (fun (z : F) (hz : z ∈ x.o) => (by have := V.size_eq x; have := F.sizes_mem hz; omega : z.v.size ≤ m))
 have HLD := hid (fun (z : V) (hz : z ∈ x.l) => (V.deep_mem_l hz : z.deep + 1 ≤ x.deep))
 have HOD := hid (fun (z : F) (hz : z ∈ x.o) => (V.deep_mem_o hz : z.v.deep + 1 ≤ x.deep))
 have HBND := hid hlen
 have hbl := hr.lt
 have hS : ¬ S b := by obtain ⟨_, _, _, hS⟩ := hr; exact hS
 have hd17 : d ≤ 17 := by omega
 have hwd : IntKind.i64.wrap (d + 1) = d + 1 := by rw [IntKind.wrap_i64]; omega
 go_enter Tryz.func96, Tryz.ntmps96
 go_wp2_with fail
 obtain ⟨W0, hW0⟩ : ∃ W0, w.alloc (.cells #[.int .u8 0, .int .i64 0, .string ⟨#[]⟩, .slice none 0 0, .slice none 0 0] TVAL) = W0 := ⟨_, rfl⟩
 have hE0 : Ext w W0 := by rw [← hW0]; exact (Keep.refl _ _).alloc _
 have hQ : Blk W0 w.heap.size TVAL #[.int .u8 0, .int .i64 0, .string ⟨#[]⟩, .slice none 0 0, .slice none 0 0] := by rw [← hW0]; exact Blk.new _ _ _
 have hR0 := hr.ext hE0
 have HQ := hid hQ
 have HK0 := hid (hE0.mono (G := (· = b)) fun _ _ x => x.elim)
 have hlt0 : w.heap.size + 1 ≤ W0.heap.size := hQ.lt
 change Calls _ _ _ (w.alloc (.cells #[.int .u8 0, .int .i64 0, .string ⟨#[]⟩, .slice none 0 0, .slice none 0 0] TVAL)) _
 rw [hW0]
 clear hW0 hQ hE0 hr ih hlen hsz hSl
 rw [encV_tail, List.cons_append] at hR0
 refine (rnumb_ok W0 S b _ 1 (by omega) hR0 (by simp)).mono ?_
 rintro e w1 ⟨rfl, hr1, hk1⟩
 rw [show ∀ (k : UInt8) (t : List UInt8), (k :: t).take 1 = [k] from fun _ _ => rfl, deN_byte]
 rw [show ∀ (k : UInt8) (t : List UInt8), (k :: t).drop 1 = t from fun _ _ => rfl] at hr1
 have hkz : (x.kind.toNat : Int) < 256 := by have := x.kind.toNat_lt; omega
 have hkw : IntKind.u8.wrap (x.kind.toNat : Int) = x.kind.toNat := IntWalk.u8_in _ (by have := x.kind.toNat_lt; omega)
 rw [encV_tail] at HBND
 obtain ⟨k, n, s, xs, xo⟩ := x
 simp only [V.kind, V.n, V.s, V.l, V.o] at *
 rw [Can] at hcan
 obtain ⟨c1, c2, c3, c4, c5, c6, c7, c8, c9, c10⟩ := hcan
 obtain ⟨W2, hW2⟩ : ∃ W2, w1.alloc (.cells #[U8 k, .int .i64 0, .string ⟨#[]⟩, .slice none 0 0, .slice none 0 0] TVAL) = W2 := ⟨_, rfl⟩
 have hE2 : Ext w1 W2 := by rw [← hW2]; exact (Keep.refl _ _).alloc _
 have HN := hid (show Blk W2 w1.heap.size TVAL #[U8 k, .int .i64 0, .string ⟨#[]⟩, .slice none 0 0, .slice none 0 0] from by rw [← hW2]; exact Blk.new _ _ _)
 have HR2 := hid (hr1.ext hE2)
 have HQ1 := hid (fun o => (HQ.out.keep hk1 (by omega)).alloc o)
 have HQ2 := hid ((HQ.out.keep hk1 (by omega)).keep hE2 id)
 have HK2 := hid ((HK0.out.trans hk1 (fun _ _ e => e)).ext hE2)
 have hN : w.heap.size + 1 ≤ w1.heap.size := by have := hk1.size; omega
 have HC := hid (And.intro c9 c10)
 have HBN := hid hbl
 have HKD := hid (show d + ((V.mk k n s xs xo).deep : Int) ≤ 17 from hd)
 have hNb : ¬ w1.heap.size = b := by have := hk1.size; omega
 clear hk1 hr1 hE2 hR0 HQ HK0 hd c9 c10
 by_cases hk1 : k = 1
 ·subst hk1
  have hn := c1 (by decide)
  have e3 := c4 (by decide)
  have e4 := c6 (by decide)
  have e5 := c8 (by decide)
  subst e3 e4 e5
  have HNN := hid hn
  clear c1 c2 c3 c4 c5 c6 c7 c8 hn
  go_wp2_with fail
  change Calls _ _ _ (w1.alloc (.cells #[U8 1, .int .i64 0, .string ⟨#[]⟩, .slice none 0 0, .slice none 0 0] TVAL)) _
  rw [hW2]
  refine (rnumb_ok W2 S b _ 8 (by omega) HR2.out (by unfold tailV; simp [beN_len])).mono ?_
  rintro e w3 ⟨rfl, hr3, hk3⟩
  rw [show tailV 1 n ⟨#[]⟩ [] [] = beN (u64 n) 8 from by unfold tailV; rw [if_pos (by decide)], drop_app (beN_len _ _)] at hr3
  rw [show tailV 1 n ⟨#[]⟩ [] [] = beN (u64 n) 8 from by unfold tailV; rw [if_pos (by decide)], take_app (beN_len _ _), deN_beN]
  have hwn : wrap64 ((u64 n % 256 ^ 8 : Nat) : Int) = n := by have := HNN.out; unfold N64 at this; unfold wrap64 u64; omega
  generalize (u64 n % 256 ^ 8 : Nat) = un at *
  have hn3 := HN.out.keep hk3 (by omega)
  have y1 := hn3.cell 1
  have f1 := hn3.frozen 1
  simp only [List.getElem?_toArray, List.getElem?_cons_succ, List.getElem?_cons_zero] at y1
  go_upto_region 24 with fail
  obtain ⟨wz, hwz⟩ : ∃ wz, w3.setCell ⟨w1.heap.size, 1, none⟩ (.int .i64 n) = wz := ⟨_, rfl⟩
  have hkN : Keep (· = w1.heap.size) w3 wz := by rw [← hwz]; exact (Keep.refl _ _).set1 1 _
  have hT1 : Blk wz w1.heap.size TVAL #[U8 1, .int .i64 n, .string ⟨#[]⟩, .slice none 0 0, .slice none 0 0] := by rw [← hwz]; simpa using hn3.set_ 1 (.int .i64 n)
  have hT2 := (HQ2.out.keep hk3 (by omega)).keep hkN (by omega)
  have hT4 := hr3.keep hkN (by omega) (fun q hq e => by have := HSL.out q hq; omega)
  have hT5 : Keep (· = b) w wz := (HK2.out.trans hk3 (fun _ _ e => e)).trans hkN (fun q hq e => by omega)
  have hT6 : VAt wz (fun q => w.heap.size ≤ q ∧ q ≠ w.heap.size) (.agg #[U8 1, .int .i64 n, .string ⟨#[]⟩, .slice none 0 0, .slice none 0 0]) (.mk 1 n ⟨#[]⟩ [] []) := ⟨_, _, rfl, Sl.nil _ _, Sl.nil _ _⟩
  rw [hwz]
  clear y1 f1 hn3 hr3 hk3 hkN hwz
  obtain ⟨y0, y1, y2, y3, y4⟩ := blk5 hT1
  obtain ⟨r0, r1, r2, r3, r4⟩ := blk5 hT2
  obtain ⟨f0, f1, f2, f3, f4⟩ := sqf5 hT2
  have HT2 := hid hT2
  have HT4 := hid hT4
  have HT5 := hid hT5
  have HT6 := hid hT6
  clear hT1 hT2 hT4 hT5 hT6
  go_wp2
  obtain ⟨W6, hW6⟩ : ∃ W6, set5 wz w.heap.size 0 (U8 1) (.int .i64 n) (.string ⟨#[]⟩) (.slice none 0 0) (.slice none 0 0) = W6 := ⟨_, rfl⟩
  have hk6 : Keep (· = w.heap.size) wz W6 := by rw [← hW6]; exact set5_keep _ _ _ _ _ _ _ _
  have hb6 : Blk W6 w.heap.size TVAL #[U8 1, .int .i64 n, .string ⟨#[]⟩, .slice none 0 0, .slice none 0 0] := by rw [← hW6]; exact set5_to HT2.out rfl _ _ _ _ _
  have hR7 : RvIs w S b r (.mk 1 n ⟨#[]⟩ [] []) (.returned (.agg #[U8 1, .int .i64 n, .string ⟨#[]⟩, .slice none 0 0, .slice none 0 0])) W6 :=
   ⟨_, rfl, ((HT6.out.keep hk6 (fun q hq e => hq.2 e))).more fun q _ h => h.1, HT4.out.keep hk6 (by omega) (fun q hq e => by have := HSL.out q hq; omega), HT5.out.trans hk6 (fun q hq e => by omega)⟩
  have HR7 := hid hR7
  obtain ⟨t0, t1, t2, t3, t4⟩ := blk5 hb6
  change bodyPost _ _ _ _ _ (set5 wz w.heap.size 0 (U8 1) (.int .i64 n) (.string ⟨#[]⟩) (.slice none 0 0) (.slice none 0 0))
  rw [hW6]
  clear hR7 hb6 hW6
  refine bodyPost_ret (v := .agg #[U8 1, .int .i64 n, .string ⟨#[]⟩, .slice none 0 0, .slice none 0 0]) (by simp [results, Tryz.results96, go_sem, t0, t1, t2, t3, t4]) rfl HR7.out
 by_cases hk2 : k = 2
 ·subst hk2
  have hn := c1 (by decide)
  have e3 := c4 (by decide)
  have e4 := c6 (by decide)
  have e5 := c8 (by decide)
  subst e3 e4 e5
  have HNN := hid hn
  clear c1 c2 c3 c4 c5 c6 c7 c8 hn
  go_wp2_with fail
  change Calls _ _ _ (w1.alloc (.cells #[U8 2, .int .i64 0, .string ⟨#[]⟩, .slice none 0 0, .slice none 0 0] TVAL)) _
  rw [hW2]
  refine (rnumb_ok W2 S b _ 8 (by omega) HR2.out (by unfold tailV; simp [beN_len])).mono ?_
  rintro e w3 ⟨rfl, hr3, hk3⟩
  rw [show tailV 2 n ⟨#[]⟩ [] [] = beN (u64 n) 8 from by unfold tailV; rw [if_pos (by decide)], drop_app (beN_len _ _)] at hr3
  rw [show tailV 2 n ⟨#[]⟩ [] [] = beN (u64 n) 8 from by unfold tailV; rw [if_pos (by decide)], take_app (beN_len _ _), deN_beN]
  have hwn : wrap64 ((u64 n % 256 ^ 8 : Nat) : Int) = n := by have := HNN.out; unfold N64 at this; unfold wrap64 u64; omega
  generalize (u64 n % 256 ^ 8 : Nat) = un at *
  have hn3 := HN.out.keep hk3 (by omega)
  have y1 := hn3.cell 1
  have f1 := hn3.frozen 1
  simp only [List.getElem?_toArray, List.getElem?_cons_succ, List.getElem?_cons_zero] at y1
  go_upto_region 24 with fail
  obtain ⟨wz, hwz⟩ : ∃ wz, w3.setCell ⟨w1.heap.size, 1, none⟩ (.int .i64 n) = wz := ⟨_, rfl⟩
  have hkN : Keep (· = w1.heap.size) w3 wz := by rw [← hwz]; exact (Keep.refl _ _).set1 1 _
  have hT1 : Blk wz w1.heap.size TVAL #[U8 2, .int .i64 n, .string ⟨#[]⟩, .slice none 0 0, .slice none 0 0] := by rw [← hwz]; simpa using hn3.set_ 1 (.int .i64 n)
  have hT2 := (HQ2.out.keep hk3 (by omega)).keep hkN (by omega)
  have hT4 := hr3.keep hkN (by omega) (fun q hq e => by have := HSL.out q hq; omega)
  have hT5 : Keep (· = b) w wz := (HK2.out.trans hk3 (fun _ _ e => e)).trans hkN (fun q hq e => by omega)
  have hT6 : VAt wz (fun q => w.heap.size ≤ q ∧ q ≠ w.heap.size) (.agg #[U8 2, .int .i64 n, .string ⟨#[]⟩, .slice none 0 0, .slice none 0 0]) (.mk 2 n ⟨#[]⟩ [] []) := ⟨_, _, rfl, Sl.nil _ _, Sl.nil _ _⟩
  rw [hwz]
  clear y1 f1 hn3 hr3 hk3 hkN hwz
  obtain ⟨y0, y1, y2, y3, y4⟩ := blk5 hT1
  obtain ⟨r0, r1, r2, r3, r4⟩ := blk5 hT2
  obtain ⟨f0, f1, f2, f3, f4⟩ := sqf5 hT2
  have HT2 := hid hT2
  have HT4 := hid hT4
  have HT5 := hid hT5
  have HT6 := hid hT6
  clear hT1 hT2 hT4 hT5 hT6
  go_wp2
  obtain ⟨W6, hW6⟩ : ∃ W6, set5 wz w.heap.size 0 (U8 2) (.int .i64 n) (.string ⟨#[]⟩) (.slice none 0 0) (.slice none 0 0) = W6 := ⟨_, rfl⟩
  have hk6 : Keep (· = w.heap.size) wz W6 := by rw [← hW6]; exact set5_keep _ _ _ _ _ _ _ _
  have hb6 : Blk W6 w.heap.size TVAL #[U8 2, .int .i64 n, .string ⟨#[]⟩, .slice none 0 0, .slice none 0 0] := by rw [← hW6]; exact set5_to HT2.out rfl _ _ _ _ _
  have hR7 : RvIs w S b r (.mk 2 n ⟨#[]⟩ [] []) (.returned (.agg #[U8 2, .int .i64 n, .string ⟨#[]⟩, .slice none 0 0, .slice none 0 0])) W6 :=
   ⟨_, rfl, ((HT6.out.keep hk6 (fun q hq e => hq.2 e))).more fun q _ h => h.1, HT4.out.keep hk6 (by omega) (fun q hq e => by have := HSL.out q hq; omega), HT5.out.trans hk6 (fun q hq e => by omega)⟩
  have HR7 := hid hR7
  obtain ⟨t0, t1, t2, t3, t4⟩ := blk5 hb6
  change bodyPost _ _ _ _ _ (set5 wz w.heap.size 0 (U8 2) (.int .i64 n) (.string ⟨#[]⟩) (.slice none 0 0) (.slice none 0 0))
  rw [hW6]
  clear hR7 hb6 hW6
  refine bodyPost_ret (v := .agg #[U8 2, .int .i64 n, .string ⟨#[]⟩, .slice none 0 0, .slice none 0 0]) (by simp [results, Tryz.results96, go_sem, t0, t1, t2, t3, t4]) rfl HR7.out
 by_cases hk3 : k = 3
 ·subst hk3
  have hn := c3 rfl
  have e3 := c2 (by decide)
  have e4 := c6 (by decide)
  have e5 := c8 (by decide)
  subst e3 e4 e5
  have HNN := hid hn
  clear c1 c2 c3 c4 c5 c6 c7 c8 hn
  go_wp2_with fail
  change Calls _ _ _ (w1.alloc (.cells #[U8 3, .int .i64 0, .string ⟨#[]⟩, .slice none 0 0, .slice none 0 0] TVAL)) _
  rw [hW2]
  refine (rtxt2_ok W2 S b s r HNN.out (by have := HR2.out; unfold tailV at this; rw [if_neg (by decide), if_pos rfl] at this; exact this)).mono ?_
  rintro e w3 ⟨rfl, hr3, hk3⟩
  have hn3 := HN.out.keep hk3 (by omega)
  have y1 := hn3.cell 2
  have f1 := hn3.frozen 2
  simp only [List.getElem?_toArray, List.getElem?_cons_succ, List.getElem?_cons_zero] at y1
  go_upto_region 24 with fail
  obtain ⟨wz, hwz⟩ : ∃ wz, w3.setCell ⟨w1.heap.size, 2, none⟩ (.string s) = wz := ⟨_, rfl⟩
  have hkN : Keep (· = w1.heap.size) w3 wz := by rw [← hwz]; exact (Keep.refl _ _).set1 2 _
  have hT1 : Blk wz w1.heap.size TVAL #[U8 3, .int .i64 0, .string s, .slice none 0 0, .slice none 0 0] := by rw [← hwz]; simpa using hn3.set_ 2 (.string s)
  have hT2 := (HQ2.out.keep hk3 (by omega)).keep hkN (by omega)
  have hT4 := hr3.keep hkN (by omega) (fun q hq e => by have := HSL.out q hq; omega)
  have hT5 : Keep (· = b) w wz := (HK2.out.trans hk3 (fun _ _ e => e)).trans hkN (fun q hq e => by omega)
  have hT6 : VAt wz (fun q => w.heap.size ≤ q ∧ q ≠ w.heap.size) (.agg #[U8 3, .int .i64 0, .string s, .slice none 0 0, .slice none 0 0]) (.mk 3 0 s [] []) := ⟨_, _, rfl, Sl.nil _ _, Sl.nil _ _⟩
  rw [hwz]
  clear y1 f1 hn3 hr3 hk3 hkN hwz
  obtain ⟨y0, y1, y2, y3, y4⟩ := blk5 hT1
  obtain ⟨r0, r1, r2, r3, r4⟩ := blk5 hT2
  obtain ⟨f0, f1, f2, f3, f4⟩ := sqf5 hT2
  have HT2 := hid hT2
  have HT4 := hid hT4
  have HT5 := hid hT5
  have HT6 := hid hT6
  clear hT1 hT2 hT4 hT5 hT6
  go_wp2
  obtain ⟨W6, hW6⟩ : ∃ W6, set5 wz w.heap.size 0 (U8 3) (.int .i64 0) (.string s) (.slice none 0 0) (.slice none 0 0) = W6 := ⟨_, rfl⟩
  have hk6 : Keep (· = w.heap.size) wz W6 := by rw [← hW6]; exact set5_keep _ _ _ _ _ _ _ _
  have hb6 : Blk W6 w.heap.size TVAL #[U8 3, .int .i64 0, .string s, .slice none 0 0, .slice none 0 0] := by rw [← hW6]; exact set5_to HT2.out rfl _ _ _ _ _
  have hR7 : RvIs w S b r (.mk 3 0 s [] []) (.returned (.agg #[U8 3, .int .i64 0, .string s, .slice none 0 0, .slice none 0 0])) W6 :=
   ⟨_, rfl, ((HT6.out.keep hk6 (fun q hq e => hq.2 e))).more fun q _ h => h.1, HT4.out.keep hk6 (by omega) (fun q hq e => by have := HSL.out q hq; omega), HT5.out.trans hk6 (fun q hq e => by omega)⟩
  have HR7 := hid hR7
  obtain ⟨t0, t1, t2, t3, t4⟩ := blk5 hb6
  change bodyPost _ _ _ _ _ (set5 wz w.heap.size 0 (U8 3) (.int .i64 0) (.string s) (.slice none 0 0) (.slice none 0 0))
  rw [hW6]
  clear hR7 hb6 hW6
  refine bodyPost_ret (v := .agg #[U8 3, .int .i64 0, .string s, .slice none 0 0, .slice none 0 0]) (by simp [results, Tryz.results96, go_sem, t0, t1, t2, t3, t4]) rfl HR7.out
 by_cases hk4 : k = 4
 ·subst hk4
  have hn := c5 rfl
  have e3 := c2 (by decide)
  have e4 := c4 (by decide)
  have e5 := c8 (by decide)
  subst e3 e4 e5
  have HNN := hid hn
  have HCN := hid (Cans_mem HC.out.1)
  have HTL := hid (show tailV 4 0 ⟨#[]⟩ xs [] = beN xs.length 4 ++ encVs xs from by unfold tailV; rw [if_neg (by decide), if_neg (by decide), if_pos rfl])
  have HLN := hid (show (encVs xs ++ r).length ≤ 4000000000 from by have := HBND.out; rw [HTL.out] at this; simp only [List.length_append, List.length_cons, beN_len] at this ⊢; omega)
  have hxs : xs.length ≤ 4000000000 := by have := HLN.out; have := encVs_len xs; rw [List.length_append] at *; omega
  clear c1 c2 c3 c4 c5 c6 c7 c8 hn
  go_wp2_with fail
  change Calls _ _ _ (w1.alloc (.cells #[U8 4, .int .i64 0, .string ⟨#[]⟩, .slice none 0 0, .slice none 0 0] TVAL)) _
  rw [hW2]
  refine (rmany2_ok W2 S b xs.length 4 (encVs xs ++ r) (by omega) (Nat.lt_of_lt_of_le HNN.out (by decide)) (by rw [List.length_append]; have := encVs_len xs; omega) (by have := HR2.out; rw [HTL.out, List.append_assoc] at this; exact this)).mono ?_
  rintro e w3 ⟨rfl, hr3, hk3⟩
  have HN3 := hid (HN.out.keep hk3 (by omega))
  have HQ3 := hid (HQ2.out.keep hk3 (by omega))
  have HK3 := hid (HK2.out.trans hk3 (fun _ _ e => e))
  have HR3 := hid hr3
  have hN3 : w1.heap.size < w3.heap.size := HN3.out.lt
  clear hr3 hk3 hW2
  go_wp2_with fail
  go_loopw [7] (fun i wr => ∃ (j : Nat) (lv : Value), j ≤ xs.length ∧ i = .int .i64 j ∧ Blk wr w1.heap.size TVAL #[.int .u8 4, .int .i64 0, .string ⟨#[]⟩, lv, .slice none 0 0] ∧ Own EVal wr w3.heap.size TVAL (DS wr w3.heap.size lv) lv (xs.take j) ∧ RrAt wr S b (encVs (xs.drop j) ++ r) ∧ Keep (fun q => q = b ∨ q = w1.heap.size) w3 wr) (fun i _ => xs.length - (intOf i).toNat)
  case atStart => exact ⟨0, .slice none 0 0, by omega, rfl, HN3.out, Own.nil _ _ _ _, HR3.out, Keep.refl _ _⟩
  case round =>
   obtain ⟨j, lv, hj, rfl, hbn, hown, hrd, hkr⟩ := hrel
   have hsr := hkr.size
   obtain ⟨A4, c4, rfl, hl4, hc4⟩ := hown.shape
   have HBN2 := hid hbn
   have HO := hid hown
   have HRD := hid hrd
   have HKR := hid hkr
   have p0 : wr.cell? ⟨b, 1, none⟩ = some (.bool false) := by obtain ⟨_, hbb, _⟩ := hrd; exact hbb.cell 1
   by_cases hlt : j < xs.length
   ·have x3 := hbn.cell 3
    simp only [List.getElem?_toArray, List.getElem?_cons_succ, List.getElem?_cons_zero] at x3
    have HXM := hid (HLM.out xs[j] (List.getElem_mem hlt))
    have HXD := hid (HLD.out xs[j] (List.getElem_mem hlt))
    have HCY := hid (HCN.out xs[j] (List.getElem_mem hlt))
    have HTS := hid (take_succ_get xs j hlt)
    have HDR := hid (encVs_drop hlt)
    have HLJ := hid (show (xs.take j).length = j from by rw [List.length_take]; omega)
    have HLL := hid (show (encV xs[j] ++ (encVs (xs.drop (j + 1)) ++ r)).length ≤ 4000000000 from by
     rw [← List.append_assoc, ← encVs_drop hlt]; have := HLN.out; have h2 : (encVs (xs.drop j)).length ≤ (encVs xs).length := by
      rw [show xs = xs.take j ++ xs.drop j from (List.take_append_drop _ _).symm, List.drop_append_of_le_length (by simp; omega)]
      simp only [List.drop_take_self]
      rw [List.nil_append, show encVs (xs.take j ++ xs.drop j) = encVs (xs.take j) ++ encVs (xs.drop j) from encVs_append _ _, List.length_append]; omega
     simp only [List.length_append] at this ⊢; omega)
    have hjX : (j : Int) < xs.length := by omega
    clear hbn hown hrd hkr
    generalize xs.take j = ta at *
    generalize xs[j] = y at *
    go_wp2_with fail
    refine M.wp_region_once [0] [1, 2, 3, 4, 5, 6] [7, 8, 9] (M.specOf [(5, fun v w' => VAt w' (fun q => wr.heap.size ≤ q) v y ∧ RrAt w' S b (encVs (xs.drop (j + 1)) ++ r)), (6, fun v w' => SlShape EVal w' (fun q => wr.heap.size ≤ q) v 1 [y])])
     (fun w' => Keep (· = b) wr w') (fun i => Keep (M.effOf [(5, fun k => k = b)] i)) (M.onceOf 5 fun w' => RrAt w' S b (encVs (xs.drop j) ++ r))
     ?_ (M.stableC_keep (fun i k h => effR_b h) _) ?_ (by kernel_rfl) (by kernel_rfl) (Keep.drew (Keep.refl _ _)) ?_ ?_
    ·refine M.stable_cons (fun i hi v w w' h he => ⟨h.1.keep he fun k _ => effR_one hi k, h.2.keep he (effR_one hi _) fun k _ => effR_one hi k⟩) (M.stable_cons (fun i hi v w w' h he => ?_) M.stable_nil)
     obtain ⟨A, c, e, h⟩ := h
     exact ⟨A, c, e, Sl.keep EVal.ok h he fun k hk hf => by have := effR_b hf; omega⟩
    ·exact M.stableU_once fun i hi u u' h he => h.keep he (effR_one hi _) fun k _ => effR_one hi k
    ·intro k _ e
     exact HRD.out.ext ((Keep.refl (fun _ => False) wr).drew)
    iterate 1
     (try simp only [Act.put, sqa, sqb, sqc])
     refine M.pure_run rfl rfl ?_
     apply Exists.intro
     refine ⟨fun w' => ?_, ?_⟩
     ·go_simp
      rfl
    refine M.pure_nil ?_
    iterate 4
     (try simp only [Act.put, sqa, sqb, sqc])
     refine M.u_run rfl rfl rfl ?_
     apply Exists.intro
     refine ⟨fun w' hC hU hK => ?_, ?_⟩
     ·have x3 := (hC.cell (lt_of_cell x3) hNb).trans x3
      go_simp
      rfl
    (try simp only [Act.put, sqa, sqb, sqc])
    refine M.u_eff rfl rfl rfl (fun w' hC hU hK => ?_) (fun v5 hv5 => ?_)
    ·unfold M.growAt
     go_simp
     refine M.grow_call ((HIH.out y HXM.out HCY.out w' S b (d + 1) (encVs (xs.drop (j + 1)) ++ r) (by have := hU rfl; rw [HDR.out, List.append_assoc] at this; exact this) (fun q hq => by have := HSL.out q hq; have := hC.size; omega) (by omega) (by have := HXD.out; have := HKD.out; omega) HLL.out).mono ?_)
     rintro e w'' ⟨u, rfl, h1, h2, h3⟩
     exact ⟨_, rfl, h3.mono (fun k _ hk => ⟨_, List.mem_cons_self, rfl, hk⟩), h1.more (fun q _ h => by have := hC.size; omega), h2⟩
    obtain ⟨_, _, ⟨lv8, ov8, rfl, hl8, ho8⟩, _⟩ := hv5
    obtain ⟨A8, d8, rfl, _⟩ := hl8.shape
    obtain ⟨A9, d9, rfl, _⟩ := ho8.shape
    clear hl8 ho8
    (try simp only [Act.put, sqa, sqb, sqc])
    refine M.u_eff rfl rfl rfl (fun w' hC hU hK => ?_) (fun v6 hv6 => ?_)
    ·unfold M.growAt
     go_simp
     obtain ⟨h13, _⟩ : VAt w' (fun q => wr.heap.size ≤ q) (.agg #[U8 y.kind, .int .i64 y.n, .string y.s, .slice A8 y.l.length d8, .slice A9 y.o.length d9]) y ∧ _ := hK.get (i := 5) List.mem_cons_self (by kernel_rfl)
     refine ⟨((Keep.refl (fun _ => False) w').alloc _).mono (fun _ _ x => x.elim), _, _, rfl, [_, _, _, _, _], ?_, Cells.single (E := EVal) (h13.ext ((Keep.refl _ _).alloc _)).rd⟩
     exact (RowS.new (sz := 5) (cs := [_, _, _, _, _]) (n := 1) rfl (by simp [maxLen])).more fun k _ e => by have := hC.size; omega
    obtain ⟨_, _, A10, d10, rfl, _⟩ := hv6
    refine M.u_nil fun wz hC hK => ?_
    obtain ⟨_, hrz⟩ : VAt wz (fun q => wr.heap.size ≤ q) (.agg #[U8 y.kind, .int .i64 y.n, .string y.s, .slice A8 y.l.length d8, .slice A9 y.o.length d9]) y ∧ RrAt wz S b (encVs (xs.drop (j + 1)) ++ r) := hK (5, _) (List.mem_cons_of_mem _ List.mem_cons_self)
    obtain ⟨_, _, _, f7⟩ : SlShape EVal wz (fun q => wr.heap.size ≤ q) (.slice A10 1 d10) 1 [y] := hK (6, _) List.mem_cons_self
    have hC : Keep (· = b) wr wz := hC
    change wpList _ _ _ (_ :: _ :: _ :: []) _ _
    have hOz := HO.out.keep EVal.ok hC (fun q hq e => by have := hq.1; omega) (fun g hg e => by have := (HO.out.lt hg).1; omega)
    have hsrc := f7.more (S' := fun k => wr.heap.size ≤ k ∧ k < wz.heap.size) EVal.ok (fun k h1 h2 => ⟨h2, h1⟩)
    have HC := hid hC
    have HRZ := hid hrz
    have hzC := hC.size
    have HBZ := hid (HBN2.out.keep hC hNb)
    clear hC hK f7 hrz x3
    (try simp only [Act.put, sqa, sqb, sqc])
    refine wpList_own_append (P := Tryz.prog) (E := EVal) (v := .slice A4 ta.length c4) (y := .slice A10 1 d10) wz rfl (.tmp 52) (.tmp 57) EVal.ok ty_val ?_ ?_ ?_ hOz hsrc ?_ ?_ ?_ (by omega) ?_
    ·rfl
    ·rfl
    ·rfl
    ·exact fun g hg => ⟨fun h => h.2.2 hg, fun h => by have := (HO.out.lt hg).2; omega⟩
    ·have := HLJ.out; simp only [List.length_singleton]; omega
    ·have := HLJ.out; simp only [List.length_singleton, maxLen]; omega
    intro v' w' hown' hk hb
    obtain ⟨A7, c7, rfl, hl7, hc7⟩ := hown'.shape
    have hgl : ∀ g, (Value.slice A4 ta.length c4).ownBlock = some g → w3.heap.size ≤ g ∧ g < wr.heap.size := fun g hg => HO.out.lt hg
    have hO3 : Own EVal w' w3.heap.size TVAL (DS w' w3.heap.size (.slice A7 (ta ++ [y]).length c7)) (.slice A7 (ta ++ [y]).length c7) (ta ++ [y]) :=
     ds_next (N := wz.heap.size) EVal.ok hown' hzC hk.size (fun k h => h) hsr (fun g hg => (hgl g hg).2) hb
    have hbw := HBZ.out.keep hk (fun e => by have := (hgl _ e).1; omega)
    have x3 := hbw.cell 3
    have z3 := hbw.frozen 3
    simp only [List.getElem?_toArray, List.getElem?_cons_succ, List.getElem?_cons_zero] at x3
    have hset : Keep (· = w1.heap.size) w' (w'.setCell ⟨w1.heap.size, 3, none⟩ (.slice A7 (ta ++ [y]).length c7)) := (Keep.refl _ _).set1 3 _
    have hb8 : Blk (w'.setCell ⟨w1.heap.size, 3, none⟩ (.slice A7 (ta ++ [y]).length c7)) w1.heap.size TVAL #[.int .u8 4, .int .i64 0, .string ⟨#[]⟩, .slice A7 (ta ++ [y]).length c7, .slice none 0 0] := hbw.set_ 3 _
    have hO8 := (hO3.keep EVal.ok hset (fun q hq e => by have := hq.1; omega) (fun g hg e => by have := (hO3.lt hg).1; omega)).more (S' := DS (w'.setCell ⟨w1.heap.size, 3, none⟩ (.slice A7 (ta ++ [y]).length c7)) w3.heap.size (.slice A7 (ta ++ [y]).length c7)) EVal.ok fun q _ h => ⟨h.1, Nat.lt_of_lt_of_le h.2.1 hset.size, h.2.2⟩
    have hr8 := (HRZ.out.keep hk (fun e => by have := (hgl _ e).1; omega) (fun q hq e => by have := HSL.out q hq; have := (hgl _ e).1; omega)).keep hset (fun e => hNb e.symm) (fun q hq e => by have := HSL.out q hq; omega)
    have hk8 : Keep (fun q => q = b ∨ q = w1.heap.size) w3 (w'.setCell ⟨w1.heap.size, 3, none⟩ (.slice A7 (ta ++ [y]).length c7)) :=
     ((HKR.out.trans HC.out (fun k _ e => .inl e)).trans hk (fun k hk2 e => by have := (hgl k e).1; omega)).trans hset (fun k _ e => .inr e)
    have HREL := hid (And.intro hb8 (And.intro hO8 (And.intro hr8 hk8)))
    rw [show (ta ++ [y]).length = ta.length + 1 by simp] at HREL
    clear hown' hk hb hO3 hbw hset hb8 hO8 hr8 hk8 hOz hsrc HC HRZ HBZ hgl
    (try simp only [Act.put, sqa, sqb, sqc])
    go_wp2_with fail
    refine NoPanic.normal ?_
    go_wp2
    have hl9 : (xs.take (j + 1)) = ta ++ [y] := HTS.out
    exact ⟨⟨j + 1, _, by omega, by go_num, HREL.out.1, by rw [hl9]; exact HREL.out.2.1, HREL.out.2.2.1, HREL.out.2.2.2⟩, by simp [intOf]; omega⟩
   ·obtain rfl : j = xs.length := by omega
    rw [List.take_length] at HO HBN2
    rw [encVs_dropn, List.nil_append] at HRD
    clear hbn hown hrd hkr
    go_upto_region 24 with fail
    have hT1 := HBN2.out
    have hT2 := HQ3.out.keep HKR.out (by omega)
    have hT4 := HRD.out
    have hT5 : Keep (· = b) w wr := HK3.out.trans HKR.out (fun q hq e => by omega)
    have hT6 : VAt wr (fun q => w.heap.size ≤ q ∧ q ≠ w.heap.size) (.agg #[.int .u8 4, .int .i64 0, .string ⟨#[]⟩, .slice A4 xs.length c4, .slice none 0 0]) (.mk 4 0 ⟨#[]⟩ xs []) :=
     ⟨_, _, rfl, (HO.out.sl EVal.ok).more EVal.ok (fun q _ h => h.elim (fun h => by have := h.1; omega) fun h => by have := (HO.out.lt h).1; omega), Sl.nil _ _⟩
    clear p0
    obtain ⟨y0, y1, y2, y3, y4⟩ := blk5 hT1
    obtain ⟨r0, r1, r2, r3, r4⟩ := blk5 hT2
    obtain ⟨f0, f1, f2, f3, f4⟩ := sqf5 hT2
    have HT2 := hid hT2
    have HT4 := hid hT4
    have HT5 := hid hT5
    have HT6 := hid hT6
    clear hT1 hT2 hT4 hT5 hT6
    go_wp2
    obtain ⟨W6, hW6⟩ : ∃ W6, set5 wr w.heap.size 0 (.int .u8 4) (.int .i64 0) (.string ⟨#[]⟩) (.slice A4 xs.length c4) (.slice none 0 0) = W6 := ⟨_, rfl⟩
    have hk6 : Keep (· = w.heap.size) wr W6 := by rw [← hW6]; exact set5_keep _ _ _ _ _ _ _ _
    have hb6 : Blk W6 w.heap.size TVAL #[.int .u8 4, .int .i64 0, .string ⟨#[]⟩, .slice A4 xs.length c4, .slice none 0 0] := by rw [← hW6]; exact set5_to HT2.out rfl _ _ _ _ _
    have hR7 : RvIs w S b r (.mk 4 0 ⟨#[]⟩ xs []) (.returned (.agg #[.int .u8 4, .int .i64 0, .string ⟨#[]⟩, .slice A4 xs.length c4, .slice none 0 0])) W6 :=
     ⟨_, rfl, ((HT6.out.keep hk6 (fun q hq e => hq.2 e))).more fun q _ h => h.1, HT4.out.keep hk6 (by omega) (fun q hq e => by have := HSL.out q hq; omega), HT5.out.trans hk6 (fun q hq e => by omega)⟩
    have HR7 := hid hR7
    obtain ⟨t0, t1, t2, t3, t4⟩ := blk5 hb6
    change bodyPost _ _ _ _ _ (set5 wr w.heap.size 0 (.int .u8 4) (.int .i64 0) (.string ⟨#[]⟩) (.slice A4 xs.length c4) (.slice none 0 0))
    rw [hW6]
    clear hR7 hb6 hW6
    refine bodyPost_ret (v := .agg #[.int .u8 4, .int .i64 0, .string ⟨#[]⟩, .slice A4 xs.length c4, .slice none 0 0]) (by simp [results, Tryz.results96, go_sem, t0, t1, t2, t3, t4]) rfl HR7.out
 by_cases hk5 : k = 5
 ·subst hk5
  have hn := c7 rfl
  have e3 := c2 (by decide)
  have e4 := c4 (by decide)
  have e5 := c6 (by decide)
  subst e3 e4 e5
  have HNN := hid hn
  have HCN := hid (CanFs_mem HC.out.2)
  have HTL := hid (show tailV 5 0 ⟨#[]⟩ [] xo = beN xo.length 4 ++ encFs xo from by unfold tailV; rw [if_neg (by decide), if_neg (by decide), if_neg (by decide), if_pos rfl])
  have HLN := hid (show (encFs xo ++ r).length ≤ 4000000000 from by have := HBND.out; rw [HTL.out] at this; simp only [List.length_append, List.length_cons, beN_len] at this ⊢; omega)
  have hxo : xo.length ≤ 4000000000 := by have := HLN.out; have := encFs_len xo; rw [List.length_append] at *; omega
  clear c1 c2 c3 c4 c5 c6 c7 c8 hn
  go_wp2_with fail
  change Calls _ _ _ (w1.alloc (.cells #[U8 5, .int .i64 0, .string ⟨#[]⟩, .slice none 0 0, .slice none 0 0] TVAL)) _
  rw [hW2]
  refine (rmany2_ok W2 S b xo.length 4 (encFs xo ++ r) (by omega) (Nat.lt_of_lt_of_le HNN.out (by decide)) (by rw [List.length_append]; have := encFs_len xo; omega) (by have := HR2.out; rw [HTL.out, List.append_assoc] at this; exact this)).mono ?_
  rintro e w3 ⟨rfl, hr3, hk3⟩
  have HN3 := hid (HN.out.keep hk3 (by omega))
  have HQ3 := hid (HQ2.out.keep hk3 (by omega))
  have HK3 := hid (HK2.out.trans hk3 (fun _ _ e => e))
  have HR3 := hid hr3
  have hN3 : w1.heap.size < w3.heap.size := HN3.out.lt
  clear hr3 hk3 hW2
  go_wp2_with fail
  go_loopw [9, 10] (fun i _ wr => ∃ (j : Nat) (lv : Value), j ≤ xo.length ∧ i = .int .i64 j ∧ Blk wr w1.heap.size TVAL #[.int .u8 5, .int .i64 0, .string ⟨#[]⟩, .slice none 0 0, lv] ∧ Own EField wr w3.heap.size TFIELD (DS wr w3.heap.size lv) lv (xo.take j) ∧ RrAt wr S b (encFs (xo.drop j) ++ r) ∧ Keep (fun q => q = b ∨ q = w1.heap.size) w3 wr) (fun i _ _ => xo.length - (intOf i).toNat)
  case atStart => exact ⟨0, .slice none 0 0, by omega, rfl, HN3.out, Own.nil _ _ _ _, HR3.out, Keep.refl _ _⟩
  case round =>
   obtain ⟨j, lv, hj, rfl, hbn, hown, hrd, hkr⟩ := hrel
   have hsr := hkr.size
   obtain ⟨A4, c4, rfl, hl4, hc4⟩ := hown.shape
   have HBN2 := hid hbn
   have HO := hid hown
   have HRD := hid hrd
   have HKR := hid hkr
   have p0 : wr.cell? ⟨b, 1, none⟩ = some (.bool false) := by obtain ⟨_, hbb, _⟩ := hrd; exact hbb.cell 1
   by_cases hlt : j < xo.length
   ·have x3 := hbn.cell 4
    simp only [List.getElem?_toArray, List.getElem?_cons_succ, List.getElem?_cons_zero] at x3
    have HXM := hid (HOM.out xo[j] (List.getElem_mem hlt))
    have HXD := hid (HOD.out xo[j] (List.getElem_mem hlt))
    have HCY := hid (HCN.out xo[j] (List.getElem_mem hlt))
    have HTS := hid (take_succ_get xo j hlt)
    have HDR := hid (encFs_drop hlt)
    have HLJ := hid (show (xo.take j).length = j from by rw [List.length_take]; omega)
    have HLL := hid (show (encT xo[j].key ++ (encV xo[j].v ++ (encFs (xo.drop (j + 1)) ++ r))).length ≤ 4000000000 from by
     rw [show encT xo[j].key ++ (encV xo[j].v ++ (encFs (xo.drop (j + 1)) ++ r)) = encFs (xo.drop j) ++ r from by rw [encFs_drop hlt, List.append_assoc, List.append_assoc]]; have := HLN.out; have h2 : (encFs (xo.drop j)).length ≤ (encFs xo).length := by
      rw [show xo = xo.take j ++ xo.drop j from (List.take_append_drop _ _).symm, List.drop_append_of_le_length (by simp; omega)]
      simp only [List.drop_take_self]
      rw [List.nil_append, show encFs (xo.take j ++ xo.drop j) = encFs (xo.take j) ++ encFs (xo.drop j) from encFs_append _ _, List.length_append]; omega
     simp only [List.length_append] at this ⊢; omega)
    have hjX : (j : Int) < xo.length := by omega
    clear hbn hown hrd hkr
    generalize xo.take j = ta at *
    generalize xo[j] = y at *
    go_wp2_with fail
    refine (rtxt2_ok wr S b y.key (encV y.v ++ (encFs (xo.drop (j + 1)) ++ r)) HCY.out.1 (by have := HRD.out; rw [HDR.out, List.append_assoc, List.append_assoc] at this; exact this)).mono ?_
    rintro e wt ⟨rfl, hrt, hkt⟩
    have hst := hkt.size
    have HBT := hid (HBN2.out.keep hkt hNb)
    have x3 := HBT.out.cell 4
    simp only [List.getElem?_toArray, List.getElem?_cons_succ, List.getElem?_cons_zero] at x3
    have HOT := hid (HO.out.keep EField.ok hkt (fun q hq e => by have := hq.1; omega) (fun g hg e => by have := (HO.out.lt hg).1; omega))
    have HRT := hid hrt
    have HKT := hid (HKR.out.trans hkt (fun k _ e => .inl e))
    clear hrt hkt
    go_wp2_with fail
    refine M.wp_region_once [0, 2] [1, 3, 4, 5, 6, 7, 8] [9, 10, 11] (M.specOf [(6, fun v w' => VAt w' (fun q => wt.heap.size ≤ q) v y.v ∧ RrAt w' S b (encFs (xo.drop (j + 1)) ++ r)), (8, fun v w' => SlShape EField w' (fun q => wt.heap.size ≤ q) v 1 [y])])
     (fun w' => Keep (· = b) wt w') (fun i => Keep (M.effOf [(6, fun k => k = b)] i)) (M.onceOf 6 fun w' => RrAt w' S b (encV y.v ++ (encFs (xo.drop (j + 1)) ++ r)))
     ?_ (M.stableC_keep (fun i k h => effR_b h) _) ?_ (by kernel_rfl) (by kernel_rfl) (Keep.drew (Keep.refl _ _)) ?_ ?_
    ·refine M.stable_cons (fun i hi v w w' h he => ⟨h.1.keep he fun k _ => effR_one hi k, h.2.keep he (effR_one hi _) fun k _ => effR_one hi k⟩) (M.stable_cons (fun i hi v w w' h he => ?_) M.stable_nil)
     obtain ⟨A, c, e, h⟩ := h
     exact ⟨A, c, e, Sl.keep EField.ok h he fun k hk hf => by have := effR_b hf; omega⟩
    ·exact M.stableU_once fun i hi u u' h he => h.keep he (effR_one hi _) fun k _ => effR_one hi k
    ·intro k _ e
     exact HRT.out.ext ((Keep.refl (fun _ => False) wt).drew)
    iterate 2
     (try simp only [Act.put, sqa, sqb, sqc])
     refine M.pure_run rfl rfl ?_
     apply Exists.intro
     refine ⟨fun w' => ?_, ?_⟩
     ·go_simp
      rfl
    refine M.pure_nil ?_
    iterate 4
     (try simp only [Act.put, sqa, sqb, sqc])
     refine M.u_run rfl rfl rfl ?_
     apply Exists.intro
     refine ⟨fun w' hC hU hK => ?_, ?_⟩
     ·have x3 := (hC.cell (lt_of_cell x3) hNb).trans x3
      go_simp
      rfl
    (try simp only [Act.put, sqa, sqb, sqc])
    refine M.u_eff rfl rfl rfl (fun w' hC hU hK => ?_) (fun v6 hv6 => ?_)
    ·unfold M.growAt
     go_simp
     refine M.grow_call ((HIH.out y.v HXM.out HCY.out.2 w' S b (d + 1) (encFs (xo.drop (j + 1)) ++ r) (hU rfl) (fun q hq => by have := HSL.out q hq; have := hC.size; omega) (by omega) (by have := HXD.out; have := HKD.out; omega) (by have := HLL.out; rw [List.length_append] at this; omega)).mono ?_)
     rintro e w'' ⟨u, rfl, h1, h2, h3⟩
     exact ⟨_, rfl, h3.mono (fun k _ hk => ⟨_, List.mem_cons_self, rfl, hk⟩), h1.more (fun q _ h => by have := hC.size; omega), h2⟩
    obtain ⟨_, _, ⟨lv8, ov8, rfl, hl8, ho8⟩, _⟩ := hv6
    obtain ⟨A8, d8, rfl, _⟩ := hl8.shape
    obtain ⟨A9, d9, rfl, _⟩ := ho8.shape
    clear hl8 ho8
    iterate 1
     (try simp only [Act.put, sqa, sqb, sqc])
     refine M.u_run rfl rfl rfl ?_
     apply Exists.intro
     refine ⟨fun w' hC hU hK => ?_, ?_⟩
     ·go_simp
      rfl
    (try simp only [Act.put, sqa, sqb, sqc])
    refine M.u_eff rfl rfl rfl (fun w' hC hU hK => ?_) (fun v8 hv8 => ?_)
    ·unfold M.growAt
     go_simp
     obtain ⟨h13, _⟩ : VAt w' (fun q => wt.heap.size ≤ q) (.agg #[U8 y.v.kind, .int .i64 y.v.n, .string y.v.s, .slice A8 y.v.l.length d8, .slice A9 y.v.o.length d9]) y.v ∧ _ := hK.get (i := 6) List.mem_cons_self (by kernel_rfl)
     refine ⟨((Keep.refl (fun _ => False) w').alloc _).mono (fun _ _ x => x.elim), _, _, rfl, [_, _, _, _, _, _], ?_, Cells.single (E := EField) (rdF_iff.2 ⟨_, rfl, (h13.ext ((Keep.refl _ _).alloc _)).rd⟩)⟩
     exact (RowS.new (sz := 6) (cs := [_, _, _, _, _, _]) (n := 1) rfl (by simp [maxLen])).more fun k _ e => by have := hC.size; omega
    obtain ⟨_, _, A10, d10, rfl, _⟩ := hv8
    refine M.u_nil fun wz hC hK => ?_
    obtain ⟨_, hrz⟩ : VAt wz (fun q => wt.heap.size ≤ q) (.agg #[U8 y.v.kind, .int .i64 y.v.n, .string y.v.s, .slice A8 y.v.l.length d8, .slice A9 y.v.o.length d9]) y.v ∧ RrAt wz S b (encFs (xo.drop (j + 1)) ++ r) := hK (6, _) (List.mem_cons_of_mem _ List.mem_cons_self)
    obtain ⟨_, _, _, f7⟩ : SlShape EField wz (fun q => wt.heap.size ≤ q) (.slice A10 1 d10) 1 [y] := hK (8, _) List.mem_cons_self
    have hC : Keep (· = b) wt wz := hC
    change wpList _ _ _ (_ :: _ :: _ :: []) _ _
    have hOz := HOT.out.keep EField.ok hC (fun q hq e => by have := hq.1; omega) (fun g hg e => by have := (HOT.out.lt hg).1; omega)
    have hsrc := f7.more (S' := fun k => wt.heap.size ≤ k ∧ k < wz.heap.size) EField.ok (fun k h1 h2 => ⟨h2, h1⟩)
    have HC := hid hC
    have HRZ := hid hrz
    have hzC := hC.size
    have HBZ := hid (HBT.out.keep hC hNb)
    clear hC hK f7 hrz x3
    (try simp only [Act.put, sqa, sqb, sqc])
    refine wpList_own_append (P := Tryz.prog) (E := EField) (v := .slice A4 ta.length c4) (y := .slice A10 1 d10) wz rfl (.tmp 79) (.tmp 86) EField.ok ty_field ?_ ?_ ?_ hOz hsrc ?_ ?_ ?_ (by omega) ?_
    ·rfl
    ·rfl
    ·rfl
    ·exact fun g hg => ⟨fun h => h.2.2 hg, fun h => by have := (HO.out.lt hg).2; have := h.1; omega⟩
    ·have := HLJ.out; simp only [List.length_singleton]; omega
    ·have := HLJ.out; simp only [List.length_singleton, maxLen]; omega
    intro v' w' hown' hk hb
    obtain ⟨A7, c7, rfl, hl7, hc7⟩ := hown'.shape
    have hgl : ∀ g, (Value.slice A4 ta.length c4).ownBlock = some g → w3.heap.size ≤ g ∧ g < wr.heap.size := fun g hg => HO.out.lt hg
    have hO3 : Own EField w' w3.heap.size TFIELD (DS w' w3.heap.size (.slice A7 (ta ++ [y]).length c7)) (.slice A7 (ta ++ [y]).length c7) (ta ++ [y]) :=
     ds_next (N := wz.heap.size) EField.ok hown' (by omega) hk.size (fun k h => ⟨by have := h.1; omega, h.2⟩) hsr (fun g hg => (hgl g hg).2) hb
    have hbw := HBZ.out.keep hk (fun e => by have := (hgl _ e).1; omega)
    have x3 := hbw.cell 4
    have z3 := hbw.frozen 4
    simp only [List.getElem?_toArray, List.getElem?_cons_succ, List.getElem?_cons_zero] at x3
    have hset : Keep (· = w1.heap.size) w' (w'.setCell ⟨w1.heap.size, 4, none⟩ (.slice A7 (ta ++ [y]).length c7)) := (Keep.refl _ _).set1 4 _
    have hb8 : Blk (w'.setCell ⟨w1.heap.size, 4, none⟩ (.slice A7 (ta ++ [y]).length c7)) w1.heap.size TVAL #[.int .u8 5, .int .i64 0, .string ⟨#[]⟩, .slice none 0 0, .slice A7 (ta ++ [y]).length c7] := hbw.set_ 4 _
    have hO8 := (hO3.keep EField.ok hset (fun q hq e => by have := hq.1; omega) (fun g hg e => by have := (hO3.lt hg).1; omega)).more (S' := DS (w'.setCell ⟨w1.heap.size, 4, none⟩ (.slice A7 (ta ++ [y]).length c7)) w3.heap.size (.slice A7 (ta ++ [y]).length c7)) EField.ok fun q _ h => ⟨h.1, Nat.lt_of_lt_of_le h.2.1 hset.size, h.2.2⟩
    have hr8 := (HRZ.out.keep hk (fun e => by have := (hgl _ e).1; omega) (fun q hq e => by have := HSL.out q hq; have := (hgl _ e).1; omega)).keep hset (fun e => hNb e.symm) (fun q hq e => by have := HSL.out q hq; omega)
    have hk8 : Keep (fun q => q = b ∨ q = w1.heap.size) w3 (w'.setCell ⟨w1.heap.size, 4, none⟩ (.slice A7 (ta ++ [y]).length c7)) :=
     ((HKT.out.trans HC.out (fun k _ e => .inl e)).trans hk (fun k hk2 e => by have := (hgl k e).1; omega)).trans hset (fun k _ e => .inr e)
    have HREL := hid (And.intro hb8 (And.intro hO8 (And.intro hr8 hk8)))
    rw [show (ta ++ [y]).length = ta.length + 1 by simp] at HREL
    clear HOT HBT HRT HKT hown' hk hb hO3 hbw hset hb8 hO8 hr8 hk8 hOz hsrc HC HRZ HBZ hgl
    (try simp only [Act.put, sqa, sqb, sqc])
    go_wp2_with fail
    refine NoPanic.normal ?_
    go_wp2
    have hl9 : (xo.take (j + 1)) = ta ++ [y] := HTS.out
    exact ⟨⟨j + 1, _, by omega, by go_num, HREL.out.1, by rw [hl9]; exact HREL.out.2.1, HREL.out.2.2.1, HREL.out.2.2.2⟩, by simp [intOf]; omega⟩
   ·obtain rfl : j = xo.length := by omega
    rw [List.take_length] at HO HBN2
    rw [encFs_dropn, List.nil_append] at HRD
    clear hbn hown hrd hkr
    go_upto_region 24 with fail
    have hT1 := HBN2.out
    have hT2 := HQ3.out.keep HKR.out (by omega)
    have hT4 := HRD.out
    have hT5 : Keep (· = b) w wr := HK3.out.trans HKR.out (fun q hq e => by omega)
    have hT6 : VAt wr (fun q => w.heap.size ≤ q ∧ q ≠ w.heap.size) (.agg #[.int .u8 5, .int .i64 0, .string ⟨#[]⟩, .slice none 0 0, .slice A4 xo.length c4]) (.mk 5 0 ⟨#[]⟩ [] xo) :=
     ⟨_, _, rfl, Sl.nil _ _, (HO.out.sl EField.ok).more EField.ok (fun q _ h => h.elim (fun h => by have := h.1; omega) fun h => by have := (HO.out.lt h).1; omega)⟩
    clear p0
    obtain ⟨y0, y1, y2, y3, y4⟩ := blk5 hT1
    obtain ⟨r0, r1, r2, r3, r4⟩ := blk5 hT2
    obtain ⟨f0, f1, f2, f3, f4⟩ := sqf5 hT2
    have HT2 := hid hT2
    have HT4 := hid hT4
    have HT5 := hid hT5
    have HT6 := hid hT6
    clear hT1 hT2 hT4 hT5 hT6
    go_wp2
    obtain ⟨W6, hW6⟩ : ∃ W6, set5 wr w.heap.size 0 (.int .u8 5) (.int .i64 0) (.string ⟨#[]⟩) (.slice none 0 0) (.slice A4 xo.length c4) = W6 := ⟨_, rfl⟩
    have hk6 : Keep (· = w.heap.size) wr W6 := by rw [← hW6]; exact set5_keep _ _ _ _ _ _ _ _
    have hb6 : Blk W6 w.heap.size TVAL #[.int .u8 5, .int .i64 0, .string ⟨#[]⟩, .slice none 0 0, .slice A4 xo.length c4] := by rw [← hW6]; exact set5_to HT2.out rfl _ _ _ _ _
    have hR7 : RvIs w S b r (.mk 5 0 ⟨#[]⟩ [] xo) (.returned (.agg #[.int .u8 5, .int .i64 0, .string ⟨#[]⟩, .slice none 0 0, .slice A4 xo.length c4])) W6 :=
     ⟨_, rfl, ((HT6.out.keep hk6 (fun q hq e => hq.2 e))).more fun q _ h => h.1, HT4.out.keep hk6 (by omega) (fun q hq e => by have := HSL.out q hq; omega), HT5.out.trans hk6 (fun q hq e => by omega)⟩
    have HR7 := hid hR7
    obtain ⟨t0, t1, t2, t3, t4⟩ := blk5 hb6
    change bodyPost _ _ _ _ _ (set5 wr w.heap.size 0 (.int .u8 5) (.int .i64 0) (.string ⟨#[]⟩) (.slice none 0 0) (.slice A4 xo.length c4))
    rw [hW6]
    clear hR7 hb6 hW6
    refine bodyPost_ret (v := .agg #[.int .u8 5, .int .i64 0, .string ⟨#[]⟩, .slice none 0 0, .slice A4 xo.length c4]) (by simp [results, Tryz.results96, go_sem, t0, t1, t2, t3, t4]) rfl HR7.out
 have hk12 : ¬ (k = 1 ∨ k = 2) := fun h => h.elim hk1 hk2
 have e1 := c2 hk12
 have e2 := c4 hk3
 have e4 := c6 hk4
 have e5 := c8 hk5
 subst e1 e2 e4 e5
 clear c1 c2 c3 c4 c5 c6 c7 c8
 have kx1 : ((k.toNat : Int) == 1) = false := by rw [beq_eq_false_iff_ne]; intro h; exact hk1 (UInt8.toNat_inj.1 (show k.toNat = 1 by omega))
 have kx2 : ((k.toNat : Int) == 2) = false := by rw [beq_eq_false_iff_ne]; intro h; exact hk2 (UInt8.toNat_inj.1 (show k.toNat = 2 by omega))
 have kx3 : ((k.toNat : Int) == 3) = false := by rw [beq_eq_false_iff_ne]; intro h; exact hk3 (UInt8.toNat_inj.1 (show k.toNat = 3 by omega))
 have kx4 : ((k.toNat : Int) == 4) = false := by rw [beq_eq_false_iff_ne]; intro h; exact hk4 (UInt8.toNat_inj.1 (show k.toNat = 4 by omega))
 have kx5 : ((k.toNat : Int) == 5) = false := by rw [beq_eq_false_iff_ne]; intro h; exact hk5 (UInt8.toNat_inj.1 (show k.toNat = 5 by omega))
 have hT0 : tailV k 0 ⟨#[]⟩ [] [] = [] := by unfold tailV; rw [if_neg hk12, if_neg hk3, if_neg hk4, if_neg hk5]
 rw [hT0] at HR2
 have hT2 := HQ2.out
 have hT4 : RrAt W2 S b r := HR2.out
 have hT5 := HK2.out
 have hT6 : VAt W2 (fun q => w.heap.size ≤ q ∧ q ≠ w.heap.size) (.agg #[U8 k, .int .i64 0, .string ⟨#[]⟩, .slice none 0 0, .slice none 0 0]) (.mk k 0 ⟨#[]⟩ [] []) := ⟨_, _, rfl, Sl.nil _ _, Sl.nil _ _⟩
 obtain ⟨r0, r1, r2, r3, r4⟩ : (∀ o, (w1.alloc o).cell? ⟨w.heap.size, 0, none⟩ = some (.int .u8 0)) ∧ (∀ o, (w1.alloc o).cell? ⟨w.heap.size, 1, none⟩ = some (.int .i64 0)) ∧ (∀ o, (w1.alloc o).cell? ⟨w.heap.size, 2, none⟩ = some (.string ⟨#[]⟩)) ∧ (∀ o, (w1.alloc o).cell? ⟨w.heap.size, 3, none⟩ = some (.slice none 0 0)) ∧ (∀ o, (w1.alloc o).cell? ⟨w.heap.size, 4, none⟩ = some (.slice none 0 0)) :=
  ⟨fun o => (HQ1.out o).cell 0, fun o => (HQ1.out o).cell 1, fun o => (HQ1.out o).cell 2, fun o => (HQ1.out o).cell 3, fun o => (HQ1.out o).cell 4⟩
 have f0 : ∀ o, (w1.alloc o).frozen? ⟨w.heap.size, 0, none⟩ = false := fun o => (HQ1.out o).frozen 0
 have f1 : ∀ o, (w1.alloc o).frozen? ⟨w.heap.size, 1, none⟩ = false := fun o => (HQ1.out o).frozen 1
 have f2 : ∀ o, (w1.alloc o).frozen? ⟨w.heap.size, 2, none⟩ = false := fun o => (HQ1.out o).frozen 2
 have f3 : ∀ o, (w1.alloc o).frozen? ⟨w.heap.size, 3, none⟩ = false := fun o => (HQ1.out o).frozen 3
 have f4 : ∀ o, (w1.alloc o).frozen? ⟨w.heap.size, 4, none⟩ = false := fun o => (HQ1.out o).frozen 4
 have HT2 := hid hT2
 have HT4 := hid hT4
 have HT5 := hid hT5
 have HT6 := hid hT6
 have HW2 := hid hW2
 clear hT2 hT4 hT5 hT6 hW2
 go_wp2
 change bodyPost _ _ _ _ _ (set5 (w1.alloc (.cells #[U8 k, .int .i64 0, .string ⟨#[]⟩, .slice none 0 0, .slice none 0 0] TVAL)) w.heap.size 0 (U8 k) (.int .i64 0) (.string ⟨#[]⟩) (.slice none 0 0) (.slice none 0 0))
 rw [HW2.out]
 obtain ⟨W6, hW6⟩ : ∃ W6, set5 W2 w.heap.size 0 (U8 k) (.int .i64 0) (.string ⟨#[]⟩) (.slice none 0 0) (.slice none 0 0) = W6 := ⟨_, rfl⟩
 have hk6 : Keep (· = w.heap.size) W2 W6 := by rw [← hW6]; exact set5_keep _ _ _ _ _ _ _ _
 have hb6 : Blk W6 w.heap.size TVAL #[U8 k, .int .i64 0, .string ⟨#[]⟩, .slice none 0 0, .slice none 0 0] := by rw [← hW6]; exact set5_to HT2.out rfl _ _ _ _ _
 have hR7 : RvIs w S b r (.mk k 0 ⟨#[]⟩ [] []) (.returned (.agg #[U8 k, .int .i64 0, .string ⟨#[]⟩, .slice none 0 0, .slice none 0 0])) W6 :=
  ⟨_, rfl, ((HT6.out.keep hk6 (fun q hq e => hq.2 e))).more fun q _ h => h.1, HT4.out.keep hk6 (by omega) (fun q hq e => by have := HSL.out q hq; omega), HT5.out.trans hk6 (fun q hq e => by omega)⟩
 have HR7 := hid hR7
 obtain ⟨t0, t1, t2, t3, t4⟩ := blk5 hb6
 change bodyPost _ _ _ _ _ (set5 W2 w.heap.size 0 (U8 k) (.int .i64 0) (.string ⟨#[]⟩) (.slice none 0 0) (.slice none 0 0))
 rw [hW6]
 clear hR7 hb6 hW6
 refine bodyPost_ret (v := .agg #[U8 k, .int .i64 0, .string ⟨#[]⟩, .slice none 0 0, .slice none 0 0]) (by simp [results, Tryz.results96, go_sem, t0, t1, t2, t3, t4]) rfl HR7.out
end Go.Proofs.YtihaliffcobacaaGreatDoor
