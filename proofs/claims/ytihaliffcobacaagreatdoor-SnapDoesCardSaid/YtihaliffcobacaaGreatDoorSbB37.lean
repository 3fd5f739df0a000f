/- RdrW, Snap2C, FrameT, Snap2D, RDV, RDW: laid together. -/
import Derived.Test.YtihaliffcobacaaGreatDoorSbB36
import Derived.Test.YtihaliffcobacaaGreatDoorSbB24
import Derived.Test.YtihaliffcobacaaGreatDoorSbB14
import Derived.Test.YtihaliffcobacaaGreatDoorSbB34
import Derived.Test.YtihaliffcobacaaGreatDoorSbB33
import Derived.Test.YtihaliffcobacaaGreatDoorSbB31
import Derived.Test.YtihaliffcobacaaGreatDoorSbB28
set_option linter.unusedSimpArgs false
set_option linter.unusedVariables false
set_option maxHeartbeats 25600000
set_option maxRecDepth 20000
namespace Go.Proofs.YtihaliffcobacaaGreatDoor
open Go.RowKit
def BackRIs (w : World) (x : V) (e : Ending) (w' : World) : Prop := ∃ u, e = .returned (.tuple #[u, .int .i64 0]) ∧ VAt w' (fun q => w.heap.size ≤ q) u x ∧ Ext w w'
set_option maxRecDepth 100000 in
theorem rback_ok (w0 : World) (hva : ValAny w0) (x : V) (hx : lightB x = true) (hn : NAll N64 x) (hwi : Wide x) (hlen : (encV x).length ≤ 60000) (w : World) (h0 : Ext w0 w) (S0 : BS) (bv : Value) (hb : BytesS w S0 bv (encV x)) :
  Calls Tryz.prog 78 #[bv] w (BackRIs w x) := by
 obtain ⟨hcan, hdeep, _⟩ := backV_can hx hn
 have hvc : valC x = 0 := by unfold valC; rw [if_pos hx, if_neg (by omega)]
 have hvb : valB x = encV x := by unfold valB; rw [if_pos hvc]
 have hb := hb.more (S' := fun k => k < w.heap.size) EU8.ok fun k h _ => h
 obtain ⟨A, c, rfl, hlc, hcm⟩ := hb.shape
 obtain ⟨n, hnl⟩ : ∃ n, (encV x).length = n := ⟨_, rfl⟩
 have HNL := hid hnl
 have HVA := hid hva
 have HWI := hid hwi
 have H0 := hid h0
 have HCN := hid (And.intro hcan hdeep)
 have HX := hid (And.intro hvc hvb)
 have HB := hid hb
 rw [hnl] at HB hlen ⊢
 clear hb hlc hcm hnl hva hwi hn hx hcan h0 hvc hvb hdeep
 go_enter Tryz.func78, Tryz.ntmps78
 go_wp2_with fail
 obtain ⟨W0, hW0⟩ : ∃ W0, (w.alloc (.cells #[.int .u8 0, .int .i64 0, .string ⟨#[]⟩, .slice none 0 0, .slice none 0 0] TVAL)).alloc (.cells #[.slice A n c, .bool false] TRRD) = W0 := ⟨_, rfl⟩
 have hE0 : Ext w W0 := by rw [← hW0]; exact ((Keep.refl _ _).alloc _).alloc _
 have hA : Blk W0 w.heap.size TVAL #[.int .u8 0, .int .i64 0, .string ⟨#[]⟩, .slice none 0 0, .slice none 0 0] := by rw [← hW0]; exact (Blk.new _ _ _).alloc _
 have hR : Blk W0 (w.heap.size + 1) TRRD #[.slice A n c, .bool false] := by
  have := Blk.new (w.alloc (.cells #[.int .u8 0, .int .i64 0, .string ⟨#[]⟩, .slice none 0 0, .slice none 0 0] TVAL)) TRRD #[.slice A n c, .bool false]
  rw [World.size_alloc] at this
  rw [← hW0]; exact this
 change Calls _ _ _ ((w.alloc (.cells #[.int .u8 0, .int .i64 0, .string ⟨#[]⟩, .slice none 0 0, .slice none 0 0] TVAL)).alloc (.cells #[.slice A n c, .bool false] TRRD)) _
 rw [hW0]
 have hlt := hR.lt
 refine (rvread_ok x.size x (Nat.le_refl _) HCN.out.1 W0 (fun k => k < w.heap.size) (w.heap.size + 1) 0 [] ⟨_, hR, by rw [List.append_nil]; exact HB.out.ext EU8.ok hE0, by omega⟩ (fun q hq => by omega) (by omega) (by have := HCN.out.2; omega) (by rw [List.append_nil, HNL.out]; omega)).mono ?_
 rintro e w1 ⟨u, rfl, hu, hr1, hk1⟩
 obtain ⟨lv, ov, rfl, hl1, ho1⟩ := hu
 obtain ⟨A1, c1, rfl, _⟩ := hl1.shape
 obtain ⟨A2, c2, rfl, _⟩ := ho1.shape
 have HV1 := hid (show VAt w1 (fun q => W0.heap.size ≤ q) (.agg #[U8 x.kind, .int .i64 x.n, .string x.s, .slice A1 x.l.length c1, .slice A2 x.o.length c2]) x from ⟨_, _, rfl, hl1, ho1⟩)
 have hA1 := hA.keep hk1 (by omega)
 obtain ⟨vr, hrb, _, _⟩ := hr1
 have p1 : ∀ o, (w1.alloc o).cell? ⟨w.heap.size + 1, 1, none⟩ = some (.bool false) := fun o => (hrb.alloc o).cell 1
 have HE1 := hid (hE0.trans hk1 fun q hq e => by omega)
 have HA1 := hid hA1
 obtain ⟨W2, hW2⟩ : ∃ W2, w1.alloc (.cells #[U8 x.kind, .int .i64 x.n, .string x.s, .slice A1 x.l.length c1, .slice A2 x.o.length c2] TVAL) = W2 := ⟨_, rfl⟩
 have hE2 : Ext w1 W2 := by rw [← hW2]; exact (Keep.refl _ _).alloc _
 have HB5 := hid (show Blk W2 w1.heap.size TVAL #[U8 x.kind, .int .i64 x.n, .string x.s, .slice A1 x.l.length c1, .slice A2 x.o.length c2] from by rw [← hW2]; exact Blk.new _ _ _)
 have HE2 := hid hE2
 have HW2 := hid hW2
 clear hW0 hE0 hA hR hl1 ho1 hA1 hrb hk1 hE2 hW2
 go_wp2_with fail
 change Calls _ _ _ (w1.alloc (.cells #[U8 x.kind, .int .i64 x.n, .string x.s, .slice A1 x.l.length c1, .slice A2 x.o.length c2] TVAL)) _
 rw [HW2.out]
 refine (rval10_ok w0 HVA.out x HWI.out _ _ W2 (H0.out.ext (HE1.out.ext HE2.out)) (HV1.out.ext HE2.out)).mono ?_
 rintro e w2 ⟨u, rfl, ho, hE3⟩
 rw [HX.out.2] at ho
 rw [HX.out.1]
 obtain ⟨A3, c3, rfl, _⟩ := ho.shape
 have hbs := ho.sl EU8.ok
 have hE13 := HE2.out.ext hE3
 rw [HNL.out] at hbs ⊢
 have k1 := convert_bytesS hbs
 have k2 := convert_bytesS (HB.out.ext EU8.ok (HE1.out.ext hE13))
 have HB6 := hid (HB5.out.keep hE3 id)
 have HA2 := hid (HA1.out.keep hE13 id)
 have HV2 := hid (HV1.out.ext hE13)
 have HE3 := hid (HE1.out.ext hE13)
 obtain ⟨y0, y1, y2, y3, y4⟩ := blk5 HB6.out
 obtain ⟨r0, r1, r2, r3, r4⟩ := blk5 HA2.out
 obtain ⟨f0, f1, f2, f3, f4⟩ := sqf5 HA2.out
 have hlt2 := HA1.out.lt
 clear ho hbs hE3 hE13
 go_wp2
 obtain ⟨W6, hW6⟩ : ∃ W6, set5 w2 w.heap.size 0 (U8 x.kind) (.int .i64 x.n) (.string x.s) (.slice A1 x.l.length c1) (.slice A2 x.o.length c2) = W6 := ⟨_, rfl⟩
 have hk6 : Keep (· = w.heap.size) w2 W6 := by rw [← hW6]; exact set5_keep _ _ _ _ _ _ _ _
 have hb6 : Blk W6 w.heap.size TVAL #[U8 x.kind, .int .i64 x.n, .string x.s, .slice A1 x.l.length c1, .slice A2 x.o.length c2] := by rw [← hW6]; exact set5_to HA2.out rfl _ _ _ _ _
 have HR := hid (show BackRIs w x (.returned (.tuple #[.agg #[U8 x.kind, .int .i64 x.n, .string x.s, .slice A1 x.l.length c1, .slice A2 x.o.length c2], .int .i64 0])) W6 from
  ⟨_, rfl, (HV2.out.keep hk6 fun q hq e => by omega).more fun q _ h => by omega, HE3.out.trans hk6 fun q hq e => by omega⟩)
 obtain ⟨t0, t1, t2, t3, t4⟩ := blk5 hb6
 change bodyPost _ _ _ _ _ (set5 w2 w.heap.size 0 (U8 x.kind) (.int .i64 x.n) (.string x.s) (.slice A1 x.l.length c1) (.slice A2 x.o.length c2))
 rw [hW6]
 clear hb6 hW6 hk6
 refine bodyPost_ret (v := .tuple #[.agg #[U8 x.kind, .int .i64 x.n, .string x.s, .slice A1 x.l.length c1, .slice A2 x.o.length c2], .int .i64 0]) (by simp [results, Tryz.results78, go_sem, t0, t1, t2, t3, t4]) rfl HR.out
theorem rreads_ok (w0 : World) (hva : ValAny w0) (s : Sh) (hs : ShOk s) (hwi : Wide s.v) (w : World) (h0 : Ext w0 w) (S : BS) (bv : Value) (hb : BytesS w S bv (shB s)) :
  Calls Tryz.prog 50 #[bv] w (ReadSIs w s) := by
 obtain ⟨k, r, hkr, hcase⟩ := shB_parts hs
 rw [hkr] at hb
 have hsn : ∃ n : Nat, s.n = (n : Int) ∧ n ≤ 5000 := ⟨s.n.toNat, by have := hs.1; omega, by have := hs.2.1; omega⟩
 obtain ⟨n, hn, hn5⟩ := hsn
 rw [show s.n.toNat = n by omega] at hb
 have hb := hb.more (S' := fun k => k < w.heap.size) EU8.ok fun k h _ => h
 have hN64 := hs.2.2.2.2.1
 obtain ⟨A, c, rfl, hlc, hcm⟩ := hb.shape
 obtain ⟨m, hm⟩ : ∃ m, (beN n 8 ++ k :: r).length = m := ⟨_, rfl⟩
 have HM := hid hm
 have hm9 : 9 ≤ m := by rw [← hm, List.length_append, beN_len, List.length_cons]; omega
 have HB := hid hb
 have HCASE := hid hcase
 have HVA := hid hva
 have HWI := hid hwi
 have H0 := hid h0
 have HN64 := hid hN64
 have HN := hid hn
 rw [hm] at HB hlc ⊢
 clear hb hkr hcase hva hwi h0 hm hs hcm hN64 hn
 have hmX : (9 : Int) ≤ m := by omega
 have hcX : (9 : Int) ≤ c := by omega
 go_enter Tryz.func50, Tryz.ntmps50
 go_wp2_with fail
 obtain ⟨W0, hW0⟩ : ∃ W0, w.alloc (.cells #[.int .i64 0, .bool false, .int .u8 0, .int .i64 0, .string ⟨#[]⟩, .slice none 0 0, .slice none 0 0] TSH2) = W0 := ⟨_, rfl⟩
 have hE0 : Ext w W0 := by rw [← hW0]; exact (Keep.refl _ _).alloc _
 have hbz : Blk W0 w.heap.size TSH2 #[.int .i64 0, .bool false, .int .u8 0, .int .i64 0, .string ⟨#[]⟩, .slice none 0 0, .slice none 0 0] := by rw [← hW0]; exact Blk.new _ _ _
 have HE0 := hid hE0
 have HBZ := hid hbz
 have HB0 := hid (HB.out.ext EU8.ok hE0)
 change Code.wp _ _ _ _ (w.alloc (.cells #[.int .i64 0, .bool false, .int .u8 0, .int .i64 0, .string ⟨#[]⟩, .slice none 0 0, .slice none 0 0] TSH2))
 rw [hW0]
 clear hW0 hE0 hbz
 go_loop [4, 5] (fun s i => ∃ k : Nat, k ≤ 8 ∧ i = .int .i64 k ∧ s = .int .u64 (deN ((beN n 8).take k) : Nat)) (fun _ i => 8 - (intOf i).toNat)
 case atStart => exact ⟨0, by omega, rfl, rfl⟩
 case round =>
  obtain ⟨j, hj, rfl, rfl⟩ := hrel
  by_cases hlt : j < 8
  ·have hkl : j < (beN n 8 ++ k :: r).length := by rw [HM.out]; omega
   obtain ⟨b1, off, rfl, hb, hsz, hc⟩ := bytesS_at HB0.out hkl
   have hlk := deN_lt ((beN n 8).take j)
   have hlk2 : ((beN n 8).take j).length = j := by rw [List.length_take, beN_len]; omega
   rw [hlk2] at hlk
   have hk8 : j < (beN n 8).length := by rw [beN_len]; exact hlt
   have hget : (beN n 8 ++ k :: r)[j]'hkl = (beN n 8)[j]'hk8 := List.getElem_append_left hk8
   rw [hget] at hc
   have hx := ((beN n 8)[j]'hk8).toNat_lt
   have hs := take_succ_get (beN n 8) j hk8
   clear hget
   generalize (beN n 8)[j]'hk8 = x at *
   have HS := hid (show deN ((beN n 8).take (j + 1)) = deN ((beN n 8).take j) * 256 + x.toNat from by rw [hs, deN_snoc]; omega)
   clear hs hlk2
   have hm : deN ((beN n 8).take j) < 72057594037927936 := by
    have : (256 : Nat) ^ j ≤ 256 ^ 7 := Nat.pow_le_pow_right (by omega) (by omega)
    omega
   generalize deN ((beN n 8).take j) = q at *
   clear hlk
   have ho : bits .or .u64 ((q : Int) * 256) (x.toNat : Int) = ((q * 256 + x.toNat : Nat) : Int) := by
    rw [show ((q : Int) * 256) = ((q * 256 : Nat) : Int) from by omega, u64_or_nat _ _ (by omega) (by omega)]
    congr 1
    have := Nat.shiftLeft_add_eq_or_of_lt (b := x.toNat) (i := 8) hx q
    rw [Nat.shiftLeft_eq] at this
    exact this.symm
   have HO := hid ho
   have hjX : (j : Int) < 8 := by omega
   have hjM : (j : Int) < m := by omega
   clear ho hkl hk8
   go_wp2
   exact ⟨⟨j + 1, by omega, by go_num, by rw [HO.out, HS.out]⟩, by simp [intOf]; omega⟩
  ·obtain rfl : j = 8 := by omega
   have hT : deN ((beN n 8).take 8) = n := by rw [List.take_of_length_le (by rw [beN_len]; omega), deN_beN, Nat.mod_eq_of_lt (by omega)]
   rw [hT]
   clear hT
   have h8 : 8 < (beN n 8 ++ k :: r).length := by rw [HM.out]; omega
   obtain ⟨b1, off, rfl, hb1, hsz1, hc1⟩ := bytesS_at HB0.out h8
   have hk8 : (beN n 8 ++ k :: r)[8]'h8 = k := by rw [List.getElem_append_right (by rw [beN_len]; omega)]; simp [beN_len]
   rw [hk8] at hc1
   obtain ⟨A2, g1, g2⟩ := tail_fact (P := Tryz.prog) EU8.ok ty_u8 HB0.out (a := (9 : Int)) (lo := 9) rfl (by rw [HM.out]; omega)
   have hdr : (beN n 8 ++ k :: r).drop 9 = r := by rw [show (9 : Nat) = 8 + 1 from rfl, ← List.drop_drop, drop_app (beN_len n 8)]; rfl
   rw [hdr] at g2
   have hlr : m - 9 = r.length := by have := HM.out; rw [List.length_append, beN_len, List.length_cons] at this; omega
   have HG2 := hid g2
   have hlt0 := HBZ.out.lt
   obtain ⟨r0, r1, r2, r3, r4, r5, r6⟩ := blk7s HBZ.out
   obtain ⟨f0, f1, f2, f3, f4, f5, f6⟩ := frz7s HBZ.out
   clear hk8 hdr g2 h8
   rcases HCASE.out with ⟨rfl, hth, rfl, hv⟩ | ⟨rfl, hth, rfl, hlb, hle⟩
   ·have hm0 : m = 9 := by have : ([] : List UInt8).length = 0 := rfl; omega
    subst hm0
    go_wp2
    obtain ⟨W7, hW7⟩ : ∃ W7, set7 W0 w.heap.size (.int .i64 (n : Int)) (.bool false) (.int .u8 0) (.int .i64 0) (.string ⟨#[]⟩) (.slice none 0 0) (.slice none 0 0) = W7 := ⟨_, rfl⟩
    have hk7 : Keep (· = w.heap.size) W0 W7 := by rw [← hW7]; exact set7_keep _ _ _ _ _ _ _ _ _
    have hb7 : Blk W7 w.heap.size TSH2 #[.int .i64 (n : Int), .bool false, .int .u8 0, .int .i64 0, .string ⟨#[]⟩, .slice none 0 0, .slice none 0 0] := by rw [← hW7]; exact set7_to HBZ.out _ _ _ _ _ _ _
    have HR := hid (show ReadSIs w s (.returned (.tuple #[.agg #[.int .i64 (n : Int), .bool false, .int .u8 0, .int .i64 0, .string ⟨#[]⟩, .slice none 0 0, .slice none 0 0], .bool true])) W7 from
     ⟨_, rfl, ⟨_, _, _, _, _, by rw [HN.out, hth], by rw [hv]; exact ⟨_, _, rfl, Sl.nil _ _, Sl.nil _ _⟩⟩, HE0.out.trans hk7 fun q hq e => by omega⟩)
    obtain ⟨t0, t1, t2, t3, t4, t5, t6⟩ := blk7s hb7
    change bodyPost _ _ _ _ _ (set7 W0 w.heap.size (.int .i64 (n : Int)) (.bool false) (.int .u8 0) (.int .i64 0) (.string ⟨#[]⟩) (.slice none 0 0) (.slice none 0 0))
    rw [hW7]
    clear hW7 hk7 hb7 r0 r1 r2 r3 r4 r5 r6 f0 f1 f2 f3 f4 f5 f6
    refine bodyPost_ret (v := .tuple #[.agg #[.int .i64 (n : Int), .bool false, .int .u8 0, .int .i64 0, .string ⟨#[]⟩, .slice none 0 0, .slice none 0 0], .bool true]) (by simp [results, Tryz.results50, go_sem, t0, t1, t2, t3, t4, t5, t6]) rfl HR.out
   ·rw [hlr] at g1 HG2
    go_wp2_with fail
    refine (rback_ok w0 HVA.out s.v hlb HN64.out HWI.out hle W0 (H0.out.ext HE0.out) _ _ HG2.out).mono ?_
    rintro e w7 ⟨u, rfl, hu, hE7⟩
    obtain ⟨lv, ov, rfl, hl1, ho1⟩ := hu
    obtain ⟨A4, c4, rfl, _⟩ := hl1.shape
    obtain ⟨A5, c5, rfl, _⟩ := ho1.shape
    have hEa : ∀ o, Ext w7 (w7.alloc o) := fun o => (Keep.refl _ _).alloc o
    have HV7 := hid (show VAt w7 (fun q => W0.heap.size ≤ q) (.agg #[U8 s.v.kind, .int .i64 s.v.n, .string s.v.s, .slice A4 s.v.l.length c4, .slice A5 s.v.o.length c5]) s.v from ⟨_, _, rfl, hl1, ho1⟩)
    have HE7 := hid (HE0.out.ext hE7)
    have HB7 := hid (HBZ.out.keep hE7 id)
    obtain ⟨r0, r1, r2, r3, r4, r5, r6⟩ : (∀ o, (w7.alloc o).cell? ⟨w.heap.size, 0, none⟩ = some (.int .i64 0)) ∧ (∀ o, (w7.alloc o).cell? ⟨w.heap.size, 1, none⟩ = some (.bool false)) ∧ (∀ o, (w7.alloc o).cell? ⟨w.heap.size, 2, none⟩ = some (.int .u8 0)) ∧ (∀ o, (w7.alloc o).cell? ⟨w.heap.size, 3, none⟩ = some (.int .i64 0)) ∧ (∀ o, (w7.alloc o).cell? ⟨w.heap.size, 4, none⟩ = some (.string ⟨#[]⟩)) ∧ (∀ o, (w7.alloc o).cell? ⟨w.heap.size, 5, none⟩ = some (.slice none 0 0)) ∧ (∀ o, (w7.alloc o).cell? ⟨w.heap.size, 6, none⟩ = some (.slice none 0 0)) :=
     ⟨fun o => (HB7.out.alloc o).cell 0, fun o => (HB7.out.alloc o).cell 1, fun o => (HB7.out.alloc o).cell 2, fun o => (HB7.out.alloc o).cell 3, fun o => (HB7.out.alloc o).cell 4, fun o => (HB7.out.alloc o).cell 5, fun o => (HB7.out.alloc o).cell 6⟩
    have f0 : ∀ o, (w7.alloc o).frozen? ⟨w.heap.size, 0, none⟩ = false := fun o => (HB7.out.alloc o).frozen 0
    have f1 : ∀ o, (w7.alloc o).frozen? ⟨w.heap.size, 1, none⟩ = false := fun o => (HB7.out.alloc o).frozen 1
    have f2 : ∀ o, (w7.alloc o).frozen? ⟨w.heap.size, 2, none⟩ = false := fun o => (HB7.out.alloc o).frozen 2
    have f3 : ∀ o, (w7.alloc o).frozen? ⟨w.heap.size, 3, none⟩ = false := fun o => (HB7.out.alloc o).frozen 3
    have f4 : ∀ o, (w7.alloc o).frozen? ⟨w.heap.size, 4, none⟩ = false := fun o => (HB7.out.alloc o).frozen 4
    have f5 : ∀ o, (w7.alloc o).frozen? ⟨w.heap.size, 5, none⟩ = false := fun o => (HB7.out.alloc o).frozen 5
    have f6 : ∀ o, (w7.alloc o).frozen? ⟨w.heap.size, 6, none⟩ = false := fun o => (HB7.out.alloc o).frozen 6
    clear hE7 hl1 ho1
    go_wp2
    obtain ⟨W8, hW8⟩ : ∃ W8, w7.alloc (.cells #[U8 s.v.kind, .int .i64 s.v.n, .string s.v.s, .slice A4 s.v.l.length c4, .slice A5 s.v.o.length c5] TVAL) = W8 := ⟨_, rfl⟩
    have hE8 : Ext w7 W8 := by rw [← hW8]; exact hEa _
    obtain ⟨W9, hW9⟩ : ∃ W9, set7 W8 w.heap.size (.int .i64 (n : Int)) (.bool true) (U8 s.v.kind) (.int .i64 s.v.n) (.string s.v.s) (.slice A4 s.v.l.length c4) (.slice A5 s.v.o.length c5) = W9 := ⟨_, rfl⟩
    have hk9 : Keep (· = w.heap.size) W8 W9 := by rw [← hW9]; exact set7_keep _ _ _ _ _ _ _ _ _
    have hb9 : Blk W9 w.heap.size TSH2 #[.int .i64 (n : Int), .bool true, U8 s.v.kind, .int .i64 s.v.n, .string s.v.s, .slice A4 s.v.l.length c4, .slice A5 s.v.o.length c5] := by rw [← hW9]; exact set7_to (HB7.out.keep hE8 id) _ _ _ _ _ _ _
    have HR := hid (show ReadSIs w s (.returned (.tuple #[.agg #[.int .i64 (n : Int), .bool true, U8 s.v.kind, .int .i64 s.v.n, .string s.v.s, .slice A4 s.v.l.length c4, .slice A5 s.v.o.length c5], .bool true])) W9 from
     ⟨_, rfl, ⟨_, _, _, _, _, by rw [HN.out, hth], ((HV7.out.ext hE8).keep hk9 fun q hq e => by omega).more fun q _ h => by omega⟩, (HE7.out.ext hE8).trans hk9 fun q hq e => by omega⟩)
    obtain ⟨t0, t1, t2, t3, t4, t5, t6⟩ := blk7s hb9
    change bodyPost _ _ _ _ _ (set7 (w7.alloc (.cells #[U8 s.v.kind, .int .i64 s.v.n, .string s.v.s, .slice A4 s.v.l.length c4, .slice A5 s.v.o.length c5] TVAL)) w.heap.size (.int .i64 (n : Int)) (.bool true) (U8 s.v.kind) (.int .i64 s.v.n) (.string s.v.s) (.slice A4 s.v.l.length c4) (.slice A5 s.v.o.length c5))
    rw [hW8, hW9]
    clear hW8 hW9 hk9 hb9 hE8 r0 r1 r2 r3 r4 r5 r6 f0 f1 f2 f3 f4 f5 f6
    refine bodyPost_ret (v := .tuple #[.agg #[.int .i64 (n : Int), .bool true, U8 s.v.kind, .int .i64 s.v.n, .string s.v.s, .slice A4 s.v.l.length c4, .slice A5 s.v.o.length c5], .bool true]) (by simp [results, Tryz.results50, go_sem, t0, t1, t2, t3, t4, t5, t6]) rfl HR.out
def OwnSafe (w0 w : World) (v : Value) (ms : List (List UInt8)) : Prop := ∃ S, Own EBytes w w0.heap.size TB S v ms ∧ ∀ k, S k → w0.heap.size ≤ k ∧ v.ownBlock ≠ some k
set_option maxRecDepth 100000 in
theorem ref_scan (v : Value) (b : List UInt8) (S : BS) (w : World) (hv : BytesS w S v b) (hbl : b.length ≤ 2000000) :
  Calls Tryz.prog 49 #[v] w fun e w' => ∃ v', e = .returned (.tuple #[v', .int .i64 ((scanL b).2 : Int)]) ∧ Sl EBytes w' (fun k => w.heap.size ≤ k) v' (scanL b).1 ∧ Ext w w' := by
 obtain ⟨A, c, rfl, hlc, hcm⟩ := hv.shape
 unfold maxLen at hcm
 have HV := hid (bytes_any hv)
 have hfl := framesL_length b.length 0 b (Nat.le_refl _)
 have hsc := scan_frames b.length 0 b (Nat.le_refl _)
 have HSC := hid hsc
 clear hv hsc
 go_enter Tryz.func49, Tryz.ntmps49
 go_wp2
 go_loopw [4, 5] (fun o p wr => ∃ (ms : List (List UInt8)) (at_ : Nat), at_ ≤ b.length ∧ p = .int .i64 (at_ : Int) ∧ ms ++ (framesL at_ (b.drop at_)).map (·.2) = (scanL b).1 ∧ at_ + (scanL (b.drop at_)).2 = (scanL b).2 ∧ OwnSafe w wr o ms ∧ Ext w wr)
  (fun _ p _ => b.length - (intOf p).toNat)
 case atStart => exact ⟨[], 0, Nat.zero_le _, rfl, by simp [HSC.out.1], by simp, ⟨fun _ => False, Own.nil _ _ _ _, fun _ h => h.elim⟩, Keep.refl _ _⟩
 case round =>
  obtain ⟨ms, at_, hat, rfl, h1, h2, ⟨S2, ho, hS2⟩, hE⟩ := hrel
  obtain ⟨Ao, co, rfl, _, _⟩ := ho.shape
  obtain ⟨A4, hs4, hv4⟩ := tail_fact (P := Tryz.prog) EU8.ok ty_u8 (HV.out.more (S' := fun k => k < w.heap.size) EU8.ok (fun k h _ => h) |>.ext EU8.ok hE) (lo := at_) (a := (at_ : Int)) rfl hat
  have HO := hid ho
  have HS2 := hid hS2
  have HE := hid hE
  have H1 := hid h1
  have H2 := hid h2
  have HV4 := hid hv4
  clear ho hS2 hE h1 h2 hv4
  go_wp2_with fail
  have hml : ms.length ≤ b.length := by
   have e1 := congrArg List.length H1.out
   have e2 := congrArg List.length HSC.out.1
   rw [List.length_append] at e1
   rw [List.length_map] at e2
   omega
  refine (ref_open _ _ _ _ HV4.out).mono ?_
  rintro e w1 h
  unfold RefOpenIs at h
  cases hop : openL (b.drop at_) with
  | none =>
   rw [hop] at h
   obtain ⟨rfl, hE1⟩ := h
   have hf1 : ms = (scanL b).1 := by have := H1.out; rw [framesL_none _ hop] at this; simpa using this
   have hf2 : at_ = (scanL b).2 := by have := H2.out; rw [scanL_none hop] at this; simpa using this
   have HF1 := hid hf1
   have HF2 := hid hf2
   have HE1 := hid hE1
   have HR := hid (((HO.out.ext EBytes.ok hE1).sl EBytes.ok).more (S' := fun k => w.heap.size ≤ k) EBytes.ok fun k _ h => by
    rcases h with h | h
    ·exact (HS2.out k h).1
    ·exact (HO.out.lt h).1)
   clear hf1 hf2 hE1 hop hs4
   go_wp2
   go_ret2
   refine ⟨.slice Ao ms.length co, by rw [← HF2.out]; rfl, ?_, HE.out.ext HE1.out⟩
   rw [← HF1.out]; exact HR.out
  | some x =>
   rw [hop] at h
   obtain ⟨vx, rfl, hx, hE1⟩ := h
   obtain ⟨Ax, cx, rfl, _, _⟩ := hx.shape
   have hxl := (openL_length hop).1
   rw [List.length_drop] at hxl
   have hpl : at_ + (8 + x.length) ≤ b.length := by omega
   have hf1 : (ms ++ [x]) ++ (framesL (at_ + (8 + x.length)) (b.drop (at_ + (8 + x.length)))).map (·.2) = (scanL b).1 := by
    have := H1.out; rw [framesL_some _ hop, List.drop_drop] at this; simpa using this
   have hf2 : (at_ + (8 + x.length)) + (scanL (b.drop (at_ + (8 + x.length)))).2 = (scanL b).2 := by
    have := H2.out; rw [scanL_some hop, List.drop_drop] at this; simp only at this; omega
   have HF1 := hid hf1
   have HF2 := hid hf2
   obtain ⟨W1, hW1⟩ : ∃ W1, w1.alloc (.cells #[.slice Ax x.length cx] TB) = W1 := ⟨_, rfl⟩
   have hE2 : Ext w1 W1 := by rw [← hW1]; exact (Keep.refl _ _).alloc _
   have hzz : W1.heap.size = w1.heap.size + 1 := by rw [← hW1]; simp
   have hrow : RowS W1 (fun k => k = w1.heap.size) 1 (.slice (some ⟨w1.heap.size, 0, none⟩) 1 1) 1 [.slice Ax x.length cx] := by
    rw [← hW1]; exact RowS.new (w := w1) (t := TB) (sz := 1) (cs := [.slice Ax x.length cx]) (n := 1) rfl (by simp [maxLen])
   have hx2 := (hx.ext EU8.ok hE2).more (S' := fun k => wr.heap.size ≤ k ∧ k < W1.heap.size) EU8.ok fun k h1 h2 => ⟨h2, h1⟩
   have ho2 := (HO.out.ext EBytes.ok (hE1.ext hE2)).more (S' := fun k => S2 k ∧ k < W1.heap.size) EBytes.ok fun k h1 h2 => ⟨h2, h1⟩
   have hz1 := hE1.size
   have HE1 := hid hE1
   have HW1 := hid hW1
   have HX2 := hid hx2
   have HO2 := hid ho2
   have HRW := hid hrow
   have HLT := hid (fun g (e : (Value.slice Ao ms.length co).ownBlock = some g) => HO.out.lt e)
   clear hf1 hf2 hE1 hop hs4 hx hx2 ho2 hrow hW1 hE2
   go_wp2_with (at_builtin; refine wpList_own_append2 (P := Tryz.prog) (E := EBytes) (v := .slice Ao ms.length co) (ys := [x]) _ rfl (.tmp 21) (.tmp 23) EBytes.ok ty_bytes rfl rfl rfl (HW1.out ▸ HO2.out) (HW1.out ▸ HRW.out) (Cells.single ⟨_, rfl, HW1.out ▸ HX2.out⟩) ?f1 ?f2 ?f3 ?f4 ?_)
   case f1 => exact fun g hg => ⟨fun h => (HS2.out g h.1).2 hg, fun h => by have := (HLT.out g hg).2; have := h.1; omega⟩
   case f2 => simp only [List.length_singleton]; omega
   case f3 => simp only [List.length_singleton, maxLen]; omega
   case f4 => have := HE.out.size; simp; omega
   intro v2 w2 hown2 hk2 hb2
   rw [HW1.out] at hk2
   have hzz' : w1.heap.size + 1 = W1.heap.size := hzz.symm
   have hb3 : v2.ownBlock = (Value.slice Ao ms.length co).ownBlock ∨ v2.ownBlock = some (w1.heap.size + 1) := by
    rcases hb2 with h | h
    ·exact .inl h
    ·right; rw [h]
   obtain ⟨A2, c2, rfl, _⟩ := hown2.shape
   have hsafe : OwnSafe w w2 (.slice A2 (ms ++ [x]).length c2) (ms ++ [x]) := by
    refine ⟨_, hown2.more (S' := fun k => (S2 k ∧ k < w1.heap.size + 1) ∨ (wr.heap.size ≤ k ∧ k < w1.heap.size + 1)) EBytes.ok fun k _ h => ?_, fun k hk => ?_⟩
    ·rcases h with h | h
     ·exact .inl ⟨h.1, by have := h.2; omega⟩
     ·exact .inr ⟨h.1, by have := h.2; omega⟩
    ·have hes := HE.out.size
     refine ⟨?_, fun e => ?_⟩
     ·rcases hk with h | h
      ·exact (HS2.out k h.1).1
      ·have := h.1; omega
     ·rcases hb3 with h | h
      ·rw [h] at e
       rcases hk with hk | hk
       ·exact (HS2.out k hk.1).2 e
       ·have := (HLT.out k e).2; have := hk.1; omega
      ·rw [h] at e; injection e with e
       rcases hk with hk | hk
       ·have := hk.2; omega
       ·have := hk.2; omega
   have HSF := hid hsafe
   have HEF := hid ((HE.out.ext HE1.out).trans (Keep.trans (F := fun k => (Value.slice Ao ms.length co).ownBlock = some k) (by rw [← HW1.out]; exact (Keep.refl _ _).alloc _) hk2 fun _ _ h => h) fun k hk h => by have := (HLT.out k h).1; omega)
   rw [show (ms ++ [x]).length = ms.length + 1 from by simp] at HSF ⊢
   clear hown2 hk2 hb2 hb3 hsafe HRW HX2 HO2
   go_wp2
   exact ⟨⟨ms ++ [x], at_ + (8 + x.length), hpl, by go_num, HF1.out, HF2.out, HSF.out, HEF.out⟩, by simp [intOf]; omega⟩
theorem rload_some (w0 : World) (hva : ValAny w0) (w : World) (h0 : Ext w0 w) (B : BS) (r : Nat) (cs : List DC) (s : DSt) (nm : ByteArray) (hd : RdIs w B r cs s) (hus : usedC cs ≤ 1048576) (hz : nm.size ≤ 140737488355328) (ls : List (List UInt8)) (sh : Sh) (hs : ShOk sh) (hwi : Wide sh.v)
  (hbl : (readR cs (byt (fileT nm))).2.length ≤ 2000000) (hsc : (scanL (readR cs (byt (fileT nm))).2).1 = ls ++ [shB sh]) :
  Calls Tryz.prog 22 #[.pointer (some ⟨r, 0, none⟩), .string nm] w (ReadSIs w sh) := by
 have hadd : ∀ w' : World, (Op.stringOp .add nm snapT).run Tryz.prog w' = .ok (.string (fileT nm)) w' := fun w' => run_string_add_sum w' _ _ (by show nm.size + 5 ≤ _; omega)
 have hszX : ¬ 9223372036854775807 < nm.size + 5 := by omega
 have HD := hid hd
 have HU := hid hus
 have HS := hid hs
 have HWI := hid hwi
 have HVA := hid hva
 have H0 := hid h0
 have HBL := hid hbl
 have HSC := hid hsc
 have HZF := hid (show (fileT nm).size ≤ maxLen from by unfold fileT maxLen; rw [ByteArray.size_append]; show nm.size + 5 ≤ _; omega)
 clear hd hus hva h0 hbl hsc hz hs hwi
 go_enter Tryz.func22, Tryz.ntmps22
 go_wp2_with fail
 obtain ⟨W0, hW0⟩ : ∃ W0, w.alloc (.cells #[.int .i64 0, .bool false, .int .u8 0, .int .i64 0, .string ⟨#[]⟩, .slice none 0 0, .slice none 0 0] TSH2) = W0 := ⟨_, rfl⟩
 have hE0 : Ext w W0 := by rw [← hW0]; exact (Keep.refl _ _).alloc _
 have hb0 : Blk W0 w.heap.size TSH2 #[.int .i64 0, .bool false, .int .u8 0, .int .i64 0, .string ⟨#[]⟩, .slice none 0 0, .slice none 0 0] := by rw [← hW0]; exact Blk.new _ _ _
 change Calls _ _ _ (w.alloc (.cells #[.int .i64 0, .bool false, .int .u8 0, .int .i64 0, .string ⟨#[]⟩, .slice none 0 0, .slice none 0 0] TSH2)) _
 rw [hW0]
 clear hW0
 refine (ref_read W0 B r cs s (fileT nm) HU.out (HD.out.ext hE0)).mono ?_
 rintro e w1 ⟨A1, c1, rfl, hx, hk⟩
 have HB0 := hid (hb0.keep hk id)
 have HE1 := hid (hE0.ext hk)
 have HBY := hid hx
 clear hE0 hb0 hx hk
 go_wp2_with fail
 refine (ref_scan _ _ _ w1 HBY.out HBL.out).mono ?_
 rintro e w2 ⟨v2, rfl, hrow, hE2⟩
 have HE2 := hid (HE1.out.ext hE2)
 replace HB0 := hid (HB0.out.keep hE2 id)
 rw [show (scanL (readR cs (byt (fileT nm))).2).1 = ls ++ [shB sh] from HSC.out] at hrow
 obtain ⟨A2, c2, rfl, hlc2, hcm2⟩ := hrow.shape
 have hkl : ls.length < (ls ++ [shB sh]).length := by rw [List.length_append]; simp
 obtain ⟨b, off, c0, rfl, hb, hsz, ⟨u, rfl, hu⟩, hc⟩ := hrow.at_ EBytes.ok hkl
 have hxl : (ls ++ [shB sh])[ls.length]'hkl = shB sh := by simp
 rw [hxl] at hu
 obtain ⟨A3, c3, rfl, _⟩ := hu.shape
 have e1 : EBytes.size = 1 := rfl
 have hcell := hc 0 _ (by rfl)
 simp only [e1, Nat.mul_one, Nat.add_zero] at hcell
 have hcm3 : ls.length + 1 ≤ maxLen := by rw [List.length_append] at hlc2; exact Nat.le_trans hlc2 hcm2
 obtain ⟨n, hn⟩ : ∃ n, ls.length = n := ⟨_, rfl⟩
 rw [show (ls ++ [shB sh]).length = n + 1 from by rw [List.length_append, hn]; rfl]
 have hlc3 : n + 1 ≤ c2 := by rw [List.length_append, hn] at hlc2; exact hlc2
 rw [hn] at hcell hcm3
 have HRU := hid (show BytesS w2 (fun k => w1.heap.size ≤ k) (.slice A3 (shB sh).length c3) (shB sh) from hu)
 clear hrow hE2 HE1 HBY hc hu hxl hkl hn hb hlc2
 unfold maxLen at hcm3
 have hwr : wrap64 (n : Int) = (n : Int) := by unfold wrap64; omega
 have hnX : (0 : Int) ≤ (n : Int) := by omega
 go_wp2_with fail
 go_loopw [10, 11, 12] (fun i _ _ wr => i = .int .i64 (n : Int) ∧ wr = w2) (fun _ _ _ _ => 0)
 case atStart => exact ⟨rfl, rfl⟩
 case round =>
  obtain ⟨rfl, rfl⟩ := hrel
  go_wp2_with fail
  refine (rreads_ok w0 HVA.out sh HS.out HWI.out wr (H0.out.ext HE2.out) _ _ HRU.out).mono ?_
  rintro e w4 ⟨u, rfl, ⟨a0, a1, a2, a3, a4, rfl, lv, ov, e1, hl, ho⟩, hE4⟩
  simp only [Value.agg.injEq, Array.mk.injEq, List.cons.injEq, and_true] at e1
  obtain ⟨rfl, rfl, rfl, rfl, rfl⟩ := e1
  obtain ⟨A4, c4, rfl, _⟩ := hl.shape
  obtain ⟨A5, c5, rfl, _⟩ := ho.shape
  have HV4 := hid (show VAt w4 (fun q => wr.heap.size ≤ q) (.agg #[U8 sh.v.kind, .int .i64 sh.v.n, .string sh.v.s, .slice A4 sh.v.l.length c4, .slice A5 sh.v.o.length c5]) sh.v from ⟨_, _, rfl, hl, ho⟩)
  have HE4 := hid (HE2.out.ext hE4)
  have HB4 := hid (HB0.out.keep hE4 id)
  have hlt0 := HB0.out.lt
  obtain ⟨r0, r1, r2, r3, r4, r5, r6⟩ : (∀ o, (w4.alloc o).cell? ⟨w.heap.size, 0, none⟩ = some (.int .i64 0)) ∧ (∀ o, (w4.alloc o).cell? ⟨w.heap.size, 1, none⟩ = some (.bool false)) ∧ (∀ o, (w4.alloc o).cell? ⟨w.heap.size, 2, none⟩ = some (.int .u8 0)) ∧ (∀ o, (w4.alloc o).cell? ⟨w.heap.size, 3, none⟩ = some (.int .i64 0)) ∧ (∀ o, (w4.alloc o).cell? ⟨w.heap.size, 4, none⟩ = some (.string ⟨#[]⟩)) ∧ (∀ o, (w4.alloc o).cell? ⟨w.heap.size, 5, none⟩ = some (.slice none 0 0)) ∧ (∀ o, (w4.alloc o).cell? ⟨w.heap.size, 6, none⟩ = some (.slice none 0 0)) :=
   ⟨fun o => (HB4.out.alloc o).cell 0, fun o => (HB4.out.alloc o).cell 1, fun o => (HB4.out.alloc o).cell 2, fun o => (HB4.out.alloc o).cell 3, fun o => (HB4.out.alloc o).cell 4, fun o => (HB4.out.alloc o).cell 5, fun o => (HB4.out.alloc o).cell 6⟩
  have f0 : ∀ o, (w4.alloc o).frozen? ⟨w.heap.size, 0, none⟩ = false := fun o => (HB4.out.alloc o).frozen 0
  have f1 : ∀ o, (w4.alloc o).frozen? ⟨w.heap.size, 1, none⟩ = false := fun o => (HB4.out.alloc o).frozen 1
  have f2 : ∀ o, (w4.alloc o).frozen? ⟨w.heap.size, 2, none⟩ = false := fun o => (HB4.out.alloc o).frozen 2
  have f3 : ∀ o, (w4.alloc o).frozen? ⟨w.heap.size, 3, none⟩ = false := fun o => (HB4.out.alloc o).frozen 3
  have f4 : ∀ o, (w4.alloc o).frozen? ⟨w.heap.size, 4, none⟩ = false := fun o => (HB4.out.alloc o).frozen 4
  have f5 : ∀ o, (w4.alloc o).frozen? ⟨w.heap.size, 5, none⟩ = false := fun o => (HB4.out.alloc o).frozen 5
  have f6 : ∀ o, (w4.alloc o).frozen? ⟨w.heap.size, 6, none⟩ = false := fun o => (HB4.out.alloc o).frozen 6
  have hEa : ∀ o, Ext w4 (w4.alloc o) := fun o => (Keep.refl _ _).alloc o
  have HSR := hid HE2.out.size
  clear hl ho hE4 hcell
  go_wp2
  obtain ⟨W8, hW8⟩ : ∃ W8, w4.alloc (.cells #[.int .i64 sh.n, .bool sh.there, U8 sh.v.kind, .int .i64 sh.v.n, .string sh.v.s, .slice A4 sh.v.l.length c4, .slice A5 sh.v.o.length c5] TSH2) = W8 := ⟨_, rfl⟩
  have hE8 : Ext w4 W8 := by rw [← hW8]; exact hEa _
  obtain ⟨W9, hW9⟩ : ∃ W9, set7 W8 w.heap.size (.int .i64 sh.n) (.bool sh.there) (U8 sh.v.kind) (.int .i64 sh.v.n) (.string sh.v.s) (.slice A4 sh.v.l.length c4) (.slice A5 sh.v.o.length c5) = W9 := ⟨_, rfl⟩
  have hk9 : Keep (· = w.heap.size) W8 W9 := by rw [← hW9]; exact set7_keep _ _ _ _ _ _ _ _ _
  have hb9 : Blk W9 w.heap.size TSH2 #[.int .i64 sh.n, .bool sh.there, U8 sh.v.kind, .int .i64 sh.v.n, .string sh.v.s, .slice A4 sh.v.l.length c4, .slice A5 sh.v.o.length c5] := by rw [← hW9]; exact set7_to (HB4.out.keep hE8 id) _ _ _ _ _ _ _
  have hsr := HSR.out
  have HR := hid (show ReadSIs w sh (.returned (.tuple #[.agg #[.int .i64 sh.n, .bool sh.there, U8 sh.v.kind, .int .i64 sh.v.n, .string sh.v.s, .slice A4 sh.v.l.length c4, .slice A5 sh.v.o.length c5], .bool true])) W9 from
   ⟨_, rfl, ⟨_, _, _, _, _, rfl, ((HV4.out.ext hE8).keep hk9 fun q hq e => by omega).more fun q _ h => by omega⟩, (HE4.out.ext hE8).trans hk9 fun q hq e => by omega⟩)
  obtain ⟨t0, t1, t2, t3, t4, t5, t6⟩ := blk7s hb9
  change bodyPost _ _ _ _ _ (set7 (w4.alloc (.cells #[.int .i64 sh.n, .bool sh.there, U8 sh.v.kind, .int .i64 sh.v.n, .string sh.v.s, .slice A4 sh.v.l.length c4, .slice A5 sh.v.o.length c5] TSH2)) w.heap.size (.int .i64 sh.n) (.bool sh.there) (U8 sh.v.kind) (.int .i64 sh.v.n) (.string sh.v.s) (.slice A4 sh.v.l.length c4) (.slice A5 sh.v.o.length c5))
  rw [hW8, hW9]
  clear hW8 hW9 hk9 hb9 hE8 r0 r1 r2 r3 r4 r5 r6 f0 f1 f2 f3 f4 f5 f6
  refine bodyPost_ret (v := .tuple #[.agg #[.int .i64 sh.n, .bool sh.there, U8 sh.v.kind, .int .i64 sh.v.n, .string sh.v.s, .slice A4 sh.v.l.length c4, .slice A5 sh.v.o.length c5], .bool true]) (by simp [results, Tryz.results22, go_sem, t0, t1, t2, t3, t4, t5, t6]) rfl HR.out
set_option maxRecDepth 100000 in
theorem rload_no (w0 : World) (hva : ValAny w0) (w : World) (h0 : Ext w0 w) (B : BS) (r : Nat) (cs : List DC) (s : DSt) (nm : ByteArray) (hd : RdIs w B r cs s) (hus : usedC cs ≤ 1048576) (hz : nm.size ≤ 140737488355328)
  (hbl : (readR cs (byt (fileT nm))).2.length ≤ 2000000) (hsc : (scanL (readR cs (byt (fileT nm))).2).1 = []) :
  Calls Tryz.prog 22 #[.pointer (some ⟨r, 0, none⟩), .string nm] w fun e w' => e = .returned (.tuple #[.agg #[.int .i64 0, .bool false, .int .u8 0, .int .i64 0, .string ⟨#[]⟩, .slice none 0 0, .slice none 0 0], .bool false]) ∧ Ext w w' := by
 have hadd : ∀ w' : World, (Op.stringOp .add nm snapT).run Tryz.prog w' = .ok (.string (fileT nm)) w' := fun w' => run_string_add_sum w' _ _ (by show nm.size + 5 ≤ _; omega)
 have hszX : ¬ 9223372036854775807 < nm.size + 5 := by omega
 have HD := hid hd
 have HU := hid hus
 have HVA := hid hva
 have H0 := hid h0
 have HBL := hid hbl
 have HSC := hid hsc
 have HZF := hid (show (fileT nm).size ≤ maxLen from by unfold fileT maxLen; rw [ByteArray.size_append]; show nm.size + 5 ≤ _; omega)
 clear hd hus hva h0 hbl hsc hz
 go_enter Tryz.func22, Tryz.ntmps22
 go_wp2_with fail
 obtain ⟨W0, hW0⟩ : ∃ W0, w.alloc (.cells #[.int .i64 0, .bool false, .int .u8 0, .int .i64 0, .string ⟨#[]⟩, .slice none 0 0, .slice none 0 0] TSH2) = W0 := ⟨_, rfl⟩
 have hE0 : Ext w W0 := by rw [← hW0]; exact (Keep.refl _ _).alloc _
 have hb0 : Blk W0 w.heap.size TSH2 #[.int .i64 0, .bool false, .int .u8 0, .int .i64 0, .string ⟨#[]⟩, .slice none 0 0, .slice none 0 0] := by rw [← hW0]; exact Blk.new _ _ _
 change Calls _ _ _ (w.alloc (.cells #[.int .i64 0, .bool false, .int .u8 0, .int .i64 0, .string ⟨#[]⟩, .slice none 0 0, .slice none 0 0] TSH2)) _
 rw [hW0]
 clear hW0
 refine (ref_read W0 B r cs s (fileT nm) HU.out (HD.out.ext hE0)).mono ?_
 rintro e w1 ⟨A1, c1, rfl, hx, hk⟩
 have HB0 := hid (hb0.keep hk id)
 have HE1 := hid (hE0.ext hk)
 have HBY := hid hx
 clear hE0 hb0 hx hk
 go_wp2_with fail
 refine (ref_scan _ _ _ w1 HBY.out HBL.out).mono ?_
 rintro e w2 ⟨v2, rfl, hrow, hE2⟩
 have HE2 := hid (HE1.out.ext hE2)
 replace HB0 := hid (HB0.out.keep hE2 id)
 rw [show (scanL (readR cs (byt (fileT nm))).2).1 = [] from HSC.out] at hrow
 obtain ⟨A2, c2, rfl, hlc2, hcm2⟩ := hrow.shape
 have HE2' := hid HE2.out
 clear hrow hE2 HE1 HBY
 go_wp2_with fail
 go_loopw [10, 11, 12] (fun i _ _ wr => i = .int .i64 (-1) ∧ wr = w2) (fun _ _ _ _ => 0)
 case atStart => exact ⟨rfl, rfl⟩
 case round =>
  obtain ⟨rfl, rfl⟩ := hrel
  obtain ⟨r0, r1, r2, r3, r4, r5, r6⟩ := blk7s HB0.out
  obtain ⟨f0, f1, f2, f3, f4, f5, f6⟩ := frz7s HB0.out
  go_wp2
  obtain ⟨W9, hW9⟩ : ∃ W9, set7 wr w.heap.size (.int .i64 0) (.bool false) (.int .u8 0) (.int .i64 0) (.string ⟨#[]⟩) (.slice none 0 0) (.slice none 0 0) = W9 := ⟨_, rfl⟩
  have hk9 : Keep (· = w.heap.size) wr W9 := by rw [← hW9]; exact set7_keep _ _ _ _ _ _ _ _ _
  have hb9 : Blk W9 w.heap.size TSH2 #[.int .i64 0, .bool false, .int .u8 0, .int .i64 0, .string ⟨#[]⟩, .slice none 0 0, .slice none 0 0] := by rw [← hW9]; exact set7_to HB0.out _ _ _ _ _ _ _
  have HR := hid (show Ext w W9 from HE2.out.trans hk9 fun q hq e => by omega)
  obtain ⟨t0, t1, t2, t3, t4, t5, t6⟩ := blk7s hb9
  change bodyPost _ _ _ _ _ (set7 wr w.heap.size (.int .i64 0) (.bool false) (.int .u8 0) (.int .i64 0) (.string ⟨#[]⟩) (.slice none 0 0) (.slice none 0 0))
  rw [hW9]
  clear hW9 hk9 hb9 r0 r1 r2 r3 r4 r5 r6 f0 f1 f2 f3 f4 f5 f6
  refine bodyPost_ret (v := .tuple #[.agg #[.int .i64 0, .bool false, .int .u8 0, .int .i64 0, .string ⟨#[]⟩, .slice none 0 0, .slice none 0 0], .bool false]) (by simp [results, Tryz.results22, go_sem, t0, t1, t2, t3, t4, t5, t6]) rfl ⟨rfl, HR.out⟩
theorem eff_two {i j : Nat} {P Q : Nat → Prop} {l k : Nat} (h : M.effOf [(i, P), (j, Q)] l k) : (l = i ∧ P k) ∨ (l = j ∧ Q k) := by
 obtain ⟨x, hx, e, hk⟩ := h
 rcases List.mem_cons.1 hx with rfl | hx
 ·exact .inl ⟨e.symm, hk⟩
 ·rcases List.mem_cons.1 hx with rfl | hx
  ·exact .inr ⟨e.symm, hk⟩
  ·cases hx
def P1 (W : World) (B1 : BS) (d : Nat) (x : List DC) (s : DSt) (B : BS) (w : World) : Prop := DiskIs w B d x s ∧ ∀ k, B k → (B1 k ∨ W.heap.size ≤ k) ∧ k < w.heap.size
def P2 (W : World) (B1 B2 : BS) (d r : Nat) (x : List DC) (s : DSt) (w : World) : Prop := ∃ C1 C2, P1 W B1 d x s C1 w ∧ RdIs w C2 r x s ∧ (∀ k, C2 k → (B2 k ∨ W.heap.size ≤ k) ∧ k < w.heap.size) ∧ ∀ k, C1 k → ¬ C2 k
section
variable {W w w' : World} {B1 B2 : BS} {d r : Nat} {x : List DC} {s : DSt}
theorem P2.one {cs : List DC} {s0 : DSt} (h : P2 W B1 B2 d r x s w) (hW : W.heap.size ≤ w.heap.size) (hlt : ∀ k, B1 k → k < W.heap.size) (hap : ∀ k, B1 k → ¬ B2 k) (hk : Keep B1 w w') (hd : DiskIs w' (moreB B1 w w') d x s) : P2 W B1 B2 d r x s w' := by
 obtain ⟨C1, C2, _, hr, hb, _⟩ := h
 have hs := hk.size
 have hn : ∀ k, C2 k → ¬ B1 k := fun k h2 h1 => by
  rcases (hb k h2).1 with h | h
  ·exact hap k h1 h
  ·have := hlt k h1; omega
 refine ⟨moreB B1 w w', C2, ⟨hd, fun k h => ?_⟩, hr.keep hk hn, fun k h => ⟨(hb k h).1, by have := (hb k h).2; omega⟩, fun k h1 h2 => ?_⟩
 ·rcases h with h | h
  ·exact ⟨.inl h, by have := hlt k h; omega⟩
  ·exact ⟨.inr (by omega), h.2⟩
 ·rcases h1 with h1 | h1
  ·exact hn k h2 h1
  ·have := (hb k h2).2; omega
theorem P1.two {C1 : BS} (h : P1 W B1 d x s C1 w) (hW : W.heap.size ≤ w.heap.size) (hlt : ∀ k, B2 k → k < W.heap.size) (hap : ∀ k, B1 k → ¬ B2 k) (hk : Keep B2 w w') (hr : RdIs w' (moreB B2 w w') r x s) : P2 W B1 B2 d r x s w' := by
 obtain ⟨hd, hb⟩ := h
 have hs := hk.size
 have hn : ∀ k, C1 k → ¬ B2 k := fun k h1 h2 => by
  rcases (hb k h1).1 with h | h
  ·exact hap k h h2
  ·have := hlt k h2; omega
 refine ⟨C1, moreB B2 w w', ⟨hd.keep hk hn, fun k h => ⟨(hb k h).1, by have := (hb k h).2; omega⟩⟩, hr, fun k h => ?_, fun k h1 h2 => ?_⟩
 ·rcases h with h | h
  ·exact ⟨.inl h, by have := hlt k h; omega⟩
  ·exact ⟨.inr (by omega), h.2⟩
 ·rcases h2 with h2 | h2
  ·exact hn k h1 h2
  ·have := (hb k h1).2; omega
end
theorem P1.keep {W w w' : World} {B1 F : BS} {d : Nat} {x : List DC} {s : DSt} {C1 : BS} (h : P1 W B1 d x s C1 w) (hk : Keep F w w') (hF : ∀ k, F k → k < W.heap.size ∧ ¬ B1 k) : P1 W B1 d x s C1 w' :=
 ⟨h.1.keep hk fun k hb hf => by
  have := hF k hf
  rcases (h.2 k hb).1 with h | h
  ·exact this.2 h
  ·omega, fun k hb => ⟨(h.2 k hb).1, Nat.lt_of_lt_of_le (h.2 k hb).2 hk.size⟩⟩
theorem P2.keep {W w w' : World} {B1 B2 F : BS} {d r : Nat} {x : List DC} {s : DSt} (h : P2 W B1 B2 d r x s w) (hk : Keep F w w') (hF : ∀ k, ¬ F k) : P2 W B1 B2 d r x s w' := by
 obtain ⟨C1, C2, h1, h2, h3, h4⟩ := h
 exact ⟨C1, C2, h1.keep hk fun k hf => absurd hf (hF k), h2.keep hk fun k _ hf => hF k hf, fun k hb => ⟨(h3 k hb).1, Nat.lt_of_lt_of_le (h3 k hb).2 hk.size⟩, h4⟩
end Go.Proofs.YtihaliffcobacaaGreatDoor
