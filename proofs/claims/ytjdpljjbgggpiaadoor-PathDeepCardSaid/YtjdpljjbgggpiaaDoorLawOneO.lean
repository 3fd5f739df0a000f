/- The law's 'one': objects. -/
import Derived.Test.YtjdpljjbgggpiaaDoorLawOneA
import Derived.Test.YtjdpljjbgggpiaaDoorLawOneL
import Derived.Test.YtjdpljjbgggpiaaDoorSoundL
set_option linter.unusedSimpArgs false
set_option linter.unusedVariables false
namespace Go.Proofs.YtjdpljjbgggpiaaDoor
open Go.RowKit
set_option linter.unusedVariables false


set_option maxHeartbeats 6400000 in
theorem one_obj (m : Nat) (ih : OneUpto m) (t : Tk) (ts : List Tk) (n : Nat) (A : Option Addr) (c : Nat) (d : Int) (S : BS) (w : World) (hnl : n = (t :: ts).length) (hl : Sl ETok w S (.slice A n c) (t :: ts)) (hn : n ≤ m + 1) (hm : m + 1 ≤ 60) (hd0 : 0 ≤ d) (hd6 : d ≤ 6) (hk : (t.kind.toNat : Int) % 6 = 5) :
    Calls Tryd.prog 26 #[.slice A n c, .int .i64 d] w (OneIs w (t :: ts)) := by
  obtain ⟨A', c', e, hlc, hcm⟩ := hl.shape
  obtain ⟨e1, e3⟩ : A = A' ∧ c = c' := by injection e with h1 _ h3; exact ⟨h1, h3⟩
  subst e1 e3
  rw [← hnl] at hlc
  clear e
  unfold maxLen at hcm
  obtain ⟨b, off, c0, rfl, _, hlt, hrd, hcell⟩ := hl.at_ ETok.ok (k := 0) (by simp)
  obtain rfl : c0 = [U8 t.kind, .int .i64 t.n, .string t.s, U8 t.many] := hrd
  have p0 := hcell 0 _ rfl
  have p1 := hcell 1 _ rfl
  have p2 := hcell 2 _ rfl
  have p3 := hcell 3 _ rfl
  have hz : ETok.size = 4 := rfl
  simp only [hz, Nat.zero_mul, Nat.add_zero] at p0 p1 p2 p3
  have hn0 : 0 < n := by rw [hnl]; simp
  have hne0 : ((n : Int) == 0) = false := by simp; omega
  have hsl : Sl ETok w (fun k => S k ∧ k < w.heap.size) (.slice (some ⟨b, off, none⟩) n c) (t :: ts) := hl.more ETok.ok fun k h1 h2 => ⟨h2, h1⟩
  have HL := hid hsl
  have HIH := hid ih
  have HNL := hid hnl
  clear hl hcell hz hsl ih hnl
  obtain ⟨tk, tn, tst, tm⟩ := t
  simp only at *
  generalize (Tk.mk tk tn tst tm :: ts) = tl at *
  obtain ⟨mk, hmk, hmk4⟩ : ∃ mk : Nat, (tm.toNat : Int) % 4 = mk ∧ mk ≤ 3 := ⟨tm.toNat % 4, by omega, by omega⟩
  obtain ⟨w0, hw0⟩ : ∃ w0, w0 = ((w.alloc (.cells #[.int .u8 0, .int .i64 0, .string ⟨#[]⟩, .slice none 0 0, .slice none 0 0] TVAL)).alloc (.cells #[U8 tk, .int .i64 tn, .string tst, U8 tm] TTOK)).alloc (.cells #[.int .u8 5, .int .i64 0, .string ⟨#[]⟩, .slice none 0 0, .slice none 0 0] TVAL) := ⟨_, rfl⟩
  have hsz : w.heap.size + 3 ≤ w0.heap.size := by rw [hw0]; simp
  have hE0 : Ext w w0 := by rw [hw0]; exact (((Keep.refl _ _).alloc _).alloc _).alloc _
  have hb4 : Blk w0 w.heap.size TVAL #[.int .u8 0, .int .i64 0, .string ⟨#[]⟩, .slice none 0 0, .slice none 0 0] := by rw [hw0]; exact ((Blk.new _ _ _).alloc _).alloc _
  have hb6 : Blk w0 (w.heap.size + 1) TTOK #[U8 tk, .int .i64 tn, .string tst, U8 tm] := by
    have := (Blk.new (w.alloc (.cells #[.int .u8 0, .int .i64 0, .string ⟨#[]⟩, .slice none 0 0, .slice none 0 0] TVAL)) TTOK #[U8 tk, .int .i64 tn, .string tst, U8 tm]).alloc (.cells #[.int .u8 5, .int .i64 0, .string ⟨#[]⟩, .slice none 0 0, .slice none 0 0] TVAL)
    rw [World.size_alloc] at this
    rw [hw0]; exact this
  have hb8 : Blk w0 (w.heap.size + 2) TVAL #[.int .u8 5, .int .i64 0, .string ⟨#[]⟩, .slice none 0 0, .slice none 0 0] := by
    have := Blk.new ((w.alloc (.cells #[.int .u8 0, .int .i64 0, .string ⟨#[]⟩, .slice none 0 0, .slice none 0 0] TVAL)).alloc (.cells #[U8 tk, .int .i64 tn, .string tst, U8 tm] TTOK)) TVAL #[.int .u8 5, .int .i64 0, .string ⟨#[]⟩, .slice none 0 0, .slice none 0 0]
    rw [World.size_alloc, World.size_alloc] at this
    rw [hw0]; exact this
  have HE0 := hid hE0
  have HB4 := hid hb4
  have HB6 := hid hb6
  have HB8 := hid hb8
  clear hE0 hb4 hb6 hb8
  go_enter Tryd.func26, Tryd.ntmps26
  go_wp2_with fail
  simp only [← hw0]
  clear hw0 p0 p1 p2 p3 hk
  go_loopw [7, 13, 14, 15, 16] (fun y i _ _ _ wr => ∃ (k j : Nat) (xs : List F) (ov : Value), y = .int .i64 k ∧ i = .int .u8 j ∧ j ≤ mk ∧ 1 ≤ k ∧ k ≤ n ∧ F.sizes xs ≤ 4 * (k - 1) + j ∧ SFs xs ∧ Rise xs ∧
    Blk wr (w.heap.size + 2) TVAL #[.int .u8 5, .int .i64 0, .string ⟨#[]⟩, .slice none 0 0, ov] ∧ Sl EField wr (fun q => w0.heap.size ≤ q) ov xs ∧ Keep (· = w.heap.size + 2) w0 wr) (fun _ i _ _ _ _ => mk - (intOf i).toNat)
  case atStart => exact ⟨1, 0, [], .slice none 0 0, rfl, rfl, by omega, by omega, by omega, by simp [F.sizes], trivial, trivial, HB8.out, Sl.nil _ _, Keep.refl _ _⟩
  case round =>
    obtain ⟨k, j, xs, lv, rfl, rfl, hj, hk1, hkn, hvs, hsv, hri, hb8, hown, hkr⟩ := hrel
    obtain ⟨A3, c3, rfl, hl3, hc3⟩ := hown.shape
    have hb6r := HB6.out.keep hkr (by omega)
    have hb4r := HB4.out.keep hkr (by omega)
    have z3 : wr.cell? ⟨w.heap.size + 1, 3, none⟩ = some (U8 tm) := hb6r.cell 3
    obtain ⟨x0, x1, x2, x3, x4⟩ := blk5 hb8
    have hER : Ext w wr := HE0.out.trans hkr fun q hq e => by omega
    have HER := hid hER
    have HKR := hid hkr
    have HO := hid hown
    have HBX := hid hb8
    have HSV := hid (And.intro hsv hri)
    have HVS := hid hvs
    have hsR := hER.size
    have hsR0 := hkr.size
    by_cases hjm : j < mk ∧ d < 6
    · obtain ⟨hjm, hdd⟩ := hjm
      clear hb4r hb6r hER hkr hown hb8 hsv hvs hri
      by_cases hkl : k < n
      · obtain ⟨b1, o1, c0, e1, _, _, hrd, hcell⟩ := (HL.out.ext ETok.ok HER.out).at_ ETok.ok (k := k) (by have := HNL.out; omega)
        injection e1 with e1
        injection e1 with e1 e2 _
        subst e1 e2
        obtain rfl : c0 = [U8 (tl[k]'(by have := HNL.out; omega)).kind, .int .i64 (tl[k]'(by have := HNL.out; omega)).n, .string (tl[k]'(by have := HNL.out; omega)).s, U8 (tl[k]'(by have := HNL.out; omega)).many] := hrd
        have i2 := hcell 2 _ rfl
        have hz : ETok.size = 4 := rfl
        simp only [hz] at i2
        generalize (tl[k]'(by have := HNL.out; omega)).s = ks at *
        clear hcell hz
        go_wp2_with fail
        refine (plain_ok ks wr).mono ?_
        rintro e w4 ⟨rfl, hE4⟩
        have hak := plain_asc ks
        generalize textOf (plainL ks) = key at *
        have HAK := hid hak
        have HE4 := hid hE4
        have z3' := ((HB6.out.keep HKR.out (by omega)).keep hE4 id).cell 3
        clear hak hE4 i2 z3
        have z3 := z3'
        clear z3'
        obtain ⟨A2, r2, f2⟩ := tail_fact (P := Tryd.prog) ETok.ok ty_tok (HL.out.ext ETok.ok (HER.out.ext HE4.out)) (a := (k : Int)) (lo := k) rfl (by have := HNL.out; omega)
        have hcall := HIH.out (tl.drop k) (n - k) (d + 1) A2 (c - k) _ w4 (by have := HNL.out; rw [List.length_drop]; omega) (by omega) (by omega) (by omega) f2
        have HC := hid hcall
        clear hcall f2
        go_wp2_with fail
        refine HC.out.mono ?_
        rintro e w5 ⟨u5, x, n5, rfl, hn5, _, hsz5, hsv5, hva5, hE5⟩
        rw [List.length_drop] at hn5
        obtain ⟨lv5, ov5, rfl, hl5, ho5⟩ := hva5
        obtain ⟨A5, c5, rfl, _⟩ := hl5.shape
        obtain ⟨A6, c6, rfl, _⟩ := ho5.shape
        have hkn5 : k + n5 ≤ n := by have := HNL.out; omega
        have hE6 : Ext w5 (w5.alloc (.cells #[U8 x.kind, .int .i64 x.n, .string x.s, .slice A5 x.l.length c5, .slice A6 x.o.length c6] TVAL)) := (Keep.refl _ _).alloc _
        have hs5r : wr.heap.size ≤ w5.heap.size := (HE4.out.ext hE5).size
        have hs4r : wr.heap.size ≤ w4.heap.size := HE4.out.size
        have hxs := (((HO.out.ext EField.ok HE4.out).ext EField.ok hE5).ext EField.ok hE6)
        have hxv : VAt (w5.alloc (.cells #[U8 x.kind, .int .i64 x.n, .string x.s, .slice A5 x.l.length c5, .slice A6 x.o.length c6] TVAL)) (fun q => w0.heap.size ≤ q) (.agg #[U8 x.kind, .int .i64 x.n, .string x.s, .slice A5 x.l.length c5, .slice A6 x.o.length c6]) x := VAt.ext (VAt.more (S := fun q => w4.heap.size ≤ q) ⟨_, _, rfl, hl5, ho5⟩ fun q h1 h2 => by omega) hE6
        have hlw : xs.length ≤ 100000 := by have := F.sizes_len xs; have := HVS.out; omega
        have HW := hid (lawwith_ok xs key x (fun q => w0.heap.size ≤ q) A3 c3 _ _ hxs hxv hlw)
        have HE57 := hid ((HE4.out.ext hE5).ext hE6)
        have hb8w := (HBX.out.keep (HE4.out.ext hE5) id)
        have y4 : w5.cell? ⟨w.heap.size + 2, 4, none⟩ = some (.slice A3 xs.length c3) := hb8w.cell 4
        have HB8w := hid (hb8w.keep hE6 id)
        have hs5 : w.heap.size + 2 < w5.heap.size := hb8w.lt
        clear x0 x1 x2 x3 x4 z3 HC hl5 ho5 hxs hxv hE5 hE6 hb8w hlw
        go_wp2_with fail
        refine HW.out.mono ?_
        rintro e w6 ⟨v6, rfl, hown6, hE6⟩
        obtain ⟨A7, c7, rfl, hl7, hc7⟩ := hown6.shape
        have hb8n := HB8w.out.keep hE6 id
        have y4' : w6.cell? ⟨w.heap.size + 2, 4, none⟩ = some (.slice A3 xs.length c3) := hb8n.cell 4
        have g4' := hb8n.frozen 4
        have hset : Keep (· = w.heap.size + 2) w6 (w6.setCell ⟨w.heap.size + 2, 4, none⟩ (.slice A7 (withL xs key x).length c7)) := Keep.setAt (Keep.refl (· = w.heap.size + 2) w6) (fun _ => rfl) 4 _
        have hsl : Sl EField (w6.setCell ⟨w.heap.size + 2, 4, none⟩ (.slice A7 (withL xs key x).length c7)) (fun q => w0.heap.size ≤ q) (.slice A7 (withL xs key x).length c7) (withL xs key x) :=
          ((hown6.sl EField.ok).more EField.ok (S' := fun q => w0.heap.size ≤ q) fun q _ h => h.elim (fun h => h.1) fun h => by have := (hown6.lt h).1; rw [World.size_alloc] at this; omega).keep EField.ok hset fun q hq e => by omega
        have hblk : Blk (w6.setCell ⟨w.heap.size + 2, 4, none⟩ (.slice A7 (withL xs key x).length c7)) (w.heap.size + 2) TVAL #[.int .u8 5, .int .i64 0, .string ⟨#[]⟩, .slice none 0 0, .slice A7 (withL xs key x).length c7] := hb8n.set_ 4 _
        have hkk : Keep (· = w.heap.size + 2) w0 (w6.setCell ⟨w.heap.size + 2, 4, none⟩ (.slice A7 (withL xs key x).length c7)) :=
          ((HKR.out.trans (HE57.out.mono fun _ _ x => x.elim) (fun _ _ h => h)).trans (hE6.mono fun _ _ x => x.elim) (fun q hq e => e)).trans hset (fun q _ e => e)
        have HREL := hid (And.intro hblk (And.intro hsl hkk))
        have HSV2 := hid (And.intro (withL_sfs HSV.out.1 HAK.out hsv5) (withL_rise (key := key) (x := x) HSV.out.2))
        have HVS2 := hid (show F.sizes (withL xs key x) ≤ 4 * (k + n5 - 1) + (j + 1) from by
          have := HVS.out
          have := withL_sizes xs key x
          omega)
        generalize withL xs key x = ys at *
        clear hown6 hE6 hset hsl hblk hkk HO HE57 HB8w HBX HSV HVS HKR hb8n hsv5 HW
        go_wp2
        exact ⟨⟨k + n5, j + 1, ys, _, by go_num, by go_num, by omega, by omega, by omega, HVS2.out, HSV2.out.1, HSV2.out.2, HREL.out.1, HREL.out.2.1, HREL.out.2.2⟩, by simp [intOf]; omega⟩
      · have HAK := hid (show Asc ⟨#[]⟩ from fun c hc => by simp at hc)
        have HE4 := hid (Keep.refl (fun _ => False) wr)
        obtain ⟨A2, r2, f2⟩ := tail_fact (P := Tryd.prog) ETok.ok ty_tok (HL.out.ext ETok.ok (HER.out.ext HE4.out)) (a := (k : Int)) (lo := k) rfl (by have := HNL.out; omega)
        have hcall := HIH.out (tl.drop k) (n - k) (d + 1) A2 (c - k) _ wr (by have := HNL.out; rw [List.length_drop]; omega) (by omega) (by omega) (by omega) f2
        have HC := hid hcall
        clear hcall f2
        go_wp2_with fail
        refine HC.out.mono ?_
        rintro e w5 ⟨u5, x, n5, rfl, hn5, _, hsz5, hsv5, hva5, hE5⟩
        rw [List.length_drop] at hn5
        obtain ⟨lv5, ov5, rfl, hl5, ho5⟩ := hva5
        obtain ⟨A5, c5, rfl, _⟩ := hl5.shape
        obtain ⟨A6, c6, rfl, _⟩ := ho5.shape
        have hkn5 : k + n5 ≤ n := by have := HNL.out; omega
        have hE6 : Ext w5 (w5.alloc (.cells #[U8 x.kind, .int .i64 x.n, .string x.s, .slice A5 x.l.length c5, .slice A6 x.o.length c6] TVAL)) := (Keep.refl _ _).alloc _
        have hs5r : wr.heap.size ≤ w5.heap.size := (HE4.out.ext hE5).size
        have hs4r : wr.heap.size ≤ wr.heap.size := HE4.out.size
        have hxs := (((HO.out.ext EField.ok HE4.out).ext EField.ok hE5).ext EField.ok hE6)
        have hxv : VAt (w5.alloc (.cells #[U8 x.kind, .int .i64 x.n, .string x.s, .slice A5 x.l.length c5, .slice A6 x.o.length c6] TVAL)) (fun q => w0.heap.size ≤ q) (.agg #[U8 x.kind, .int .i64 x.n, .string x.s, .slice A5 x.l.length c5, .slice A6 x.o.length c6]) x := VAt.ext (VAt.more (S := fun q => wr.heap.size ≤ q) ⟨_, _, rfl, hl5, ho5⟩ fun q h1 h2 => by omega) hE6
        have hlw : xs.length ≤ 100000 := by have := F.sizes_len xs; have := HVS.out; omega
        have HW := hid (lawwith_ok xs ⟨#[]⟩ x (fun q => w0.heap.size ≤ q) A3 c3 _ _ hxs hxv hlw)
        have HE57 := hid ((HE4.out.ext hE5).ext hE6)
        have hb8w := (HBX.out.keep (HE4.out.ext hE5) id)
        have y4 : w5.cell? ⟨w.heap.size + 2, 4, none⟩ = some (.slice A3 xs.length c3) := hb8w.cell 4
        have HB8w := hid (hb8w.keep hE6 id)
        have hs5 : w.heap.size + 2 < w5.heap.size := hb8w.lt
        clear x0 x1 x2 x3 x4 z3 HC hl5 ho5 hxs hxv hE5 hE6 hb8w hlw
        go_wp2_with fail
        refine HW.out.mono ?_
        rintro e w6 ⟨v6, rfl, hown6, hE6⟩
        obtain ⟨A7, c7, rfl, hl7, hc7⟩ := hown6.shape
        have hb8n := HB8w.out.keep hE6 id
        have y4' : w6.cell? ⟨w.heap.size + 2, 4, none⟩ = some (.slice A3 xs.length c3) := hb8n.cell 4
        have g4' := hb8n.frozen 4
        have hset : Keep (· = w.heap.size + 2) w6 (w6.setCell ⟨w.heap.size + 2, 4, none⟩ (.slice A7 (withL xs ⟨#[]⟩ x).length c7)) := Keep.setAt (Keep.refl (· = w.heap.size + 2) w6) (fun _ => rfl) 4 _
        have hsl : Sl EField (w6.setCell ⟨w.heap.size + 2, 4, none⟩ (.slice A7 (withL xs ⟨#[]⟩ x).length c7)) (fun q => w0.heap.size ≤ q) (.slice A7 (withL xs ⟨#[]⟩ x).length c7) (withL xs ⟨#[]⟩ x) :=
          ((hown6.sl EField.ok).more EField.ok (S' := fun q => w0.heap.size ≤ q) fun q _ h => h.elim (fun h => h.1) fun h => by have := (hown6.lt h).1; rw [World.size_alloc] at this; omega).keep EField.ok hset fun q hq e => by omega
        have hblk : Blk (w6.setCell ⟨w.heap.size + 2, 4, none⟩ (.slice A7 (withL xs ⟨#[]⟩ x).length c7)) (w.heap.size + 2) TVAL #[.int .u8 5, .int .i64 0, .string ⟨#[]⟩, .slice none 0 0, .slice A7 (withL xs ⟨#[]⟩ x).length c7] := hb8n.set_ 4 _
        have hkk : Keep (· = w.heap.size + 2) w0 (w6.setCell ⟨w.heap.size + 2, 4, none⟩ (.slice A7 (withL xs ⟨#[]⟩ x).length c7)) :=
          ((HKR.out.trans (HE57.out.mono fun _ _ x => x.elim) (fun _ _ h => h)).trans (hE6.mono fun _ _ x => x.elim) (fun q hq e => e)).trans hset (fun q _ e => e)
        have HREL := hid (And.intro hblk (And.intro hsl hkk))
        have HSV2 := hid (And.intro (withL_sfs HSV.out.1 HAK.out hsv5) (withL_rise (key := ⟨#[]⟩) (x := x) HSV.out.2))
        have HVS2 := hid (show F.sizes (withL xs ⟨#[]⟩ x) ≤ 4 * (k + n5 - 1) + (j + 1) from by
          have := HVS.out
          have := withL_sizes xs ⟨#[]⟩ x
          omega)
        generalize withL xs ⟨#[]⟩ x = ys at *
        clear hown6 hE6 hset hsl hblk hkk HO HE57 HB8w HBX HSV HVS HKR hb8n hsv5 HW
        go_wp2
        exact ⟨⟨k + n5, j + 1, ys, _, by go_num, by go_num, by omega, by omega, by omega, HVS2.out, HSV2.out.1, HSV2.out.2, HREL.out.1, HREL.out.2.1, HREL.out.2.2⟩, by simp [intOf]; omega⟩
    · have hat0 : Sl EField wr (fun q => w0.heap.size ≤ q) (.slice A3 xs.length c3) xs := HO.out
      clear hb6r hER hkr hown hb8 hsv hvs hri
      by_cases hjm2 : j < mk
      · have hdd : ¬ d < 6 := fun h => hjm ⟨hjm2, h⟩
        clear hjm
        have hbr := set5_to hb4r rfl (.int .u8 5) (.int .i64 0) (.string ⟨#[]⟩) (.slice none 0 0) (.slice A3 xs.length c3)
        obtain ⟨t0, t1, t2, t3, t4⟩ := blk5 hbr
        have hk5 := set5_keep wr w.heap.size 0 (.int .u8 5) (.int .i64 0) (.string ⟨#[]⟩) (.slice none 0 0) (.slice A3 xs.length c3)
        have hat : VAt (set5 wr w.heap.size 0 (.int .u8 5) (.int .i64 0) (.string ⟨#[]⟩) (.slice none 0 0) (.slice A3 xs.length c3)) (fun q => w.heap.size ≤ q) (.agg #[.int .u8 5, .int .i64 0, .string ⟨#[]⟩, (.slice none 0 0), (.slice A3 xs.length c3)]) (.mk 5 0 ⟨#[]⟩ [] xs) := ⟨_, _, rfl, Sl.nil _ _, (hat0.keep EField.ok hk5 (fun q hq e => by omega)).more EField.ok fun q _ h => by omega⟩
        have HT := hid (And.intro t0 (And.intro t1 (And.intro t2 (And.intro t3 t4))))
        have HR := hid (show OneIs w tl (.returned (.tuple #[.agg #[.int .u8 5, .int .i64 0, .string ⟨#[]⟩, (.slice none 0 0), (.slice A3 xs.length c3)], .int .i64 (k : Int)])) (set5 wr w.heap.size 0 (.int .u8 5) (.int .i64 0) (.string ⟨#[]⟩) (.slice none 0 0) (.slice A3 xs.length c3)) from
          ⟨_, (.mk 5 0 ⟨#[]⟩ [] xs), k, rfl, by have := HNL.out; omega, fun _ => hk1, by have := HVS.out; rw [V.size]; simp only [V.sizes]; omega, (by rw [SV]; exact ⟨.inr (.inr (.inr (.inr (.inr ⟨rfl, rfl, rfl, rfl⟩)))), by rw [SVs]; trivial, HSV.out.1, HSV.out.2⟩), hat, HER.out.trans hk5 fun q hq e => by omega⟩)
        obtain ⟨q0, q1, q2, q3, q4⟩ := blk5 hb4r
        have f0 := hb4r.frozen 0
        have f1 := hb4r.frozen 1
        have f2 := hb4r.frozen 2
        have f3 := hb4r.frozen 3
        have f4 := hb4r.frozen 4
        clear t0 t1 t2 t3 t4 hbr hb4r hat hk5
        go_wp2
        obtain ⟨t0, t1, t2, t3, t4⟩ := HT.out
        refine bodyPost_ret (v := .tuple #[.agg #[.int .u8 5, .int .i64 0, .string ⟨#[]⟩, (.slice none 0 0), (.slice A3 xs.length c3)], .int .i64 (k : Int)]) (by simp [results, Tryd.results26, go_sem, t0, t1, t2, t3, t4]) rfl HR.out
      · clear hjm
        have hbr := set5_to hb4r rfl (.int .u8 5) (.int .i64 0) (.string ⟨#[]⟩) (.slice none 0 0) (.slice A3 xs.length c3)
        obtain ⟨t0, t1, t2, t3, t4⟩ := blk5 hbr
        have hk5 := set5_keep wr w.heap.size 0 (.int .u8 5) (.int .i64 0) (.string ⟨#[]⟩) (.slice none 0 0) (.slice A3 xs.length c3)
        have hat : VAt (set5 wr w.heap.size 0 (.int .u8 5) (.int .i64 0) (.string ⟨#[]⟩) (.slice none 0 0) (.slice A3 xs.length c3)) (fun q => w.heap.size ≤ q) (.agg #[.int .u8 5, .int .i64 0, .string ⟨#[]⟩, (.slice none 0 0), (.slice A3 xs.length c3)]) (.mk 5 0 ⟨#[]⟩ [] xs) := ⟨_, _, rfl, Sl.nil _ _, (hat0.keep EField.ok hk5 (fun q hq e => by omega)).more EField.ok fun q _ h => by omega⟩
        have HT := hid (And.intro t0 (And.intro t1 (And.intro t2 (And.intro t3 t4))))
        have HR := hid (show OneIs w tl (.returned (.tuple #[.agg #[.int .u8 5, .int .i64 0, .string ⟨#[]⟩, (.slice none 0 0), (.slice A3 xs.length c3)], .int .i64 (k : Int)])) (set5 wr w.heap.size 0 (.int .u8 5) (.int .i64 0) (.string ⟨#[]⟩) (.slice none 0 0) (.slice A3 xs.length c3)) from
          ⟨_, (.mk 5 0 ⟨#[]⟩ [] xs), k, rfl, by have := HNL.out; omega, fun _ => hk1, by have := HVS.out; rw [V.size]; simp only [V.sizes]; omega, (by rw [SV]; exact ⟨.inr (.inr (.inr (.inr (.inr ⟨rfl, rfl, rfl, rfl⟩)))), by rw [SVs]; trivial, HSV.out.1, HSV.out.2⟩), hat, HER.out.trans hk5 fun q hq e => by omega⟩)
        obtain ⟨q0, q1, q2, q3, q4⟩ := blk5 hb4r
        have f0 := hb4r.frozen 0
        have f1 := hb4r.frozen 1
        have f2 := hb4r.frozen 2
        have f3 := hb4r.frozen 3
        have f4 := hb4r.frozen 4
        clear t0 t1 t2 t3 t4 hbr hb4r hat hk5
        go_wp2
        obtain ⟨t0, t1, t2, t3, t4⟩ := HT.out
        refine bodyPost_ret (v := .tuple #[.agg #[.int .u8 5, .int .i64 0, .string ⟨#[]⟩, (.slice none 0 0), (.slice A3 xs.length c3)], .int .i64 (k : Int)]) (by simp [results, Tryd.results26, go_sem, t0, t1, t2, t3, t4]) rfl HR.out
end Go.Proofs.YtjdpljjbgggpiaaDoor
