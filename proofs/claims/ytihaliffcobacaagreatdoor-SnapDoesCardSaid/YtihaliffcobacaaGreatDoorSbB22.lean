/- FrameB, SnapA, RdrA: laid together. -/
import Derived.Test.YtihaliffcobacaaGreatDoorSbB21
import Derived.Test.YtihaliffcobacaaGreatDoorSbB16
import Derived.Test.YtihaliffcobacaaGreatDoorSbB3
import Derived.Test.YtihaliffcobacaaGreatDoorSbB4
import Derived.Test.YtihaliffcobacaaGreatDoorSbB14
import Derived.Test.YtihaliffcobacaaGreatDoorSbB5
import Derived.Test.YtihaliffcobacaaGreatDoorSbB8
import Derived.Test.YtihaliffcobacaaGreatDoorSbB7
set_option linter.unusedSimpArgs false
set_option linter.unusedVariables false
set_option maxHeartbeats 25600000
set_option maxRecDepth 20000
namespace Go.Proofs.YtihaliffcobacaaGreatDoor
open Go.RowKit
theorem wrap_ok (v : Value) (l : List UInt8) (S : BS) (w : World) (hv : BytesS w S v l) (hl : l.length ≤ 60000) :
  Calls Tryz.prog 27 #[v] w fun e w' => ∃ v', e = .returned (.tuple #[v', .int .u16 0]) ∧ Own EU8 w' w.heap.size 5 (fun _ => False) v' (frm l) ∧ Ext w w' := by
 obtain ⟨A, c, rfl, h1, h2⟩ := hv.shape
 unfold maxLen at h2
 have hli : (l.length : Int) ≤ 60000 := by omega
 go_enter Tryz.func27, Tryz.ntmps27
 go_wp2_with fail
 refine (four_any l.length (by omega) _).mono ?_
 rintro e w1 ⟨v1, rfl, hv1, hE1⟩
 obtain ⟨A1, c1, rfl, _⟩ := hv1.shape
 rw [fourL_length] at hv1 ⊢
 have HV1 := hid hv1
 have HE1 := hid hE1
 have HV := hid hv
 clear hv1 hE1 hv
 go_wp2_with fail
 refine (sum_any _ _ _ _ (bytess_two (t := 46) (f := (0, 0)) HV1.out (HV.out.ext EU8.ok HE1.out))).mono ?_
 rintro e w2 ⟨rfl, hE2⟩
 have HE2 := hid ((Keep.alloc HE1.out _).ext hE2)
 have HV2 := hid ((HV1.out.ext EU8.ok ((Keep.refl _ _).alloc _)).ext EU8.ok hE2)
 rw [show [fourL l.length, l].flatten = fourL l.length ++ l from by simp]
 have hlt := (sumOf (fourL l.length ++ l)).isLt
 unfold U32
 generalize hs : (sumOf (fourL l.length ++ l)).toNat = s at *
 have HS := hid hs
 clear hE2 hs
 go_wp2_with fail
 refine (four_any s hlt _).mono ?_
 rintro e w3 ⟨v3, rfl, hv3, hE3⟩
 obtain ⟨A3, c3, rfl, _⟩ := hv3.shape
 rw [fourL_length] at hv3 ⊢
 have HV3 := hid hv3
 have HV4 := hid (HV2.out.ext EU8.ok hE3)
 have HE3 := hid (HE2.out.ext hE3)
 clear hv3 hE3 HV1 HE1 HE2 HV2
 go_wp2_with fail
 refine (concat_any _ _ _ _ (sl_three (t := 46) (f := (0, 0)) (S := fun _ => True) (HV4.out.more EU8.ok fun _ _ _ => trivial) (HV3.out.more EU8.ok fun _ _ _ => trivial) ((HV.out.ext EU8.ok HE3.out).more EU8.ok fun _ _ _ => trivial)) ?_).mono ?_
 ·simp [fourL]; omega
 rintro e w5 ⟨v5, rfl, ho5, hE5⟩
 have hE : Ext w w5 := (Keep.alloc HE3.out _).ext hE5
 rw [show [fourL l.length, fourL s, l].flatten = frm l from by simp [frm, HS.out]] at ho5
 have HO := hid (ho5.less (b' := w.heap.size) (by have := HE3.out.size; simp; omega))
 have HE := hid hE
 clear ho5 hE hE5
 go_wp2
 go_ret2
 exact ⟨_, rfl, HO.out, HE.out⟩
theorem wrap_long (v : Value) (l : List UInt8) (S : BS) (w : World) (hv : BytesS w S v l) (hl : 60000 < l.length) :
  Calls Tryz.prog 27 #[v] w fun e w' => e = .returned (.tuple #[.slice none 0 0, .int .u16 3]) ∧ w = w' := by
 obtain ⟨A, c, rfl, h1, h2⟩ := hv.shape
 unfold maxLen at h2
 have hli : 60000 < (l.length : Int) := by omega
 go_enter Tryz.func27, Tryz.ntmps27
 go_wp2
 go_ret2
 exact ⟨rfl, rfl⟩
theorem valB_len (v : V) : (valB v).length ≤ 60000 := by
 unfold valB
 by_cases h : valC v = 0
 ·rw [if_pos h]
  unfold valC at h
  by_cases hl : lightB v = true
  ·rw [if_pos hl] at h
   by_cases hg : (encV v).length > 60000
   ·rw [if_pos hg] at h; exact absurd h (by decide)
   ·omega
  ·rw [if_neg hl] at h; exact absurd h (by decide)
 ·rw [if_neg h]; simp
abbrev TSHOT : Nat := 35
def ShVal (w : World) (S : BS) (u : Value) (s : Sh) : Prop := ∃ a0 a1 a2 a3 a4, u = .agg #[.int .i64 s.n, .bool s.there, a0, a1, a2, a3, a4] ∧ VAt w S (.agg #[a0, a1, a2, a3, a4]) s.v
def ShBIs (w : World) (s : Sh) (e : Ending) (w' : World) : Prop := ∃ u, e = .returned (.tuple #[u, .int .u16 (shC s)]) ∧ BytesS w' (fun q => w.heap.size ≤ q) u (shB s) ∧ Ext w w'
set_option maxRecDepth 100000 in
theorem shb_ok (w0 : World) (hva : ValAny w0) (s : Sh) (h1 : 0 ≤ s.n) (h2 : s.n ≤ 5000) (hw : Wide s.v) (w : World) (h0 : Ext w0 w) (S : BS) (u : Value) (hu : ShVal w S u s) :
  Calls Tryz.prog 26 #[u] w (ShBIs w s) := by
 obtain ⟨sn, th, sv⟩ := s
 simp only at h1 h2 hw
 obtain ⟨n, rfl⟩ : ∃ n : Nat, sn = (n : Int) := ⟨sn.toNat, by omega⟩
 obtain ⟨a0, a1, a2, a3, a4, rfl, hv⟩ := hu
 simp only at hv ⊢
 obtain ⟨lv, ov, e1, hl, ho⟩ := hv
 obtain ⟨A1, c1, rfl, _⟩ := hl.shape
 obtain ⟨A2, c2, rfl, _⟩ := ho.shape
 simp only [Value.agg.injEq, Array.mk.injEq, List.cons.injEq, and_true] at e1
 obtain ⟨rfl, rfl, rfl, rfl, rfl⟩ := e1
 have HVA := hid hva
 have HWI := hid hw
 have H0 := hid h0
 have HV := hid (show VAt w S (.agg #[U8 sv.kind, .int .i64 sv.n, .string sv.s, .slice A1 sv.l.length c1, .slice A2 sv.o.length c2]) sv from ⟨_, _, rfl, hl, ho⟩)
 clear hva hw h0 hl ho
 go_enter Tryz.func26, Tryz.ntmps26
 go_wp2_with fail
 obtain ⟨W0, hW0⟩ : ∃ W0, w.alloc (.cells #[.int .i64 (n : Int), .bool th, U8 sv.kind, .int .i64 sv.n, .string sv.s, .slice A1 sv.l.length c1, .slice A2 sv.o.length c2] TSHOT) = W0 := ⟨_, rfl⟩
 have hE0 : Ext w W0 := by rw [← hW0]; exact (Keep.refl _ _).alloc _
 have hb0 : Blk W0 w.heap.size TSHOT #[.int .i64 (n : Int), .bool th, U8 sv.kind, .int .i64 sv.n, .string sv.s, .slice A1 sv.l.length c1, .slice A2 sv.o.length c2] := by rw [← hW0]; exact Blk.new _ _ _
 have HE0 := hid hE0
 have HB0 := hid hb0
 change Code.wp _ _ _ _ (w.alloc (.cells #[.int .i64 (n : Int), .bool th, U8 sv.kind, .int .i64 sv.n, .string sv.s, .slice A1 sv.l.length c1, .slice A2 sv.o.length c2] TSHOT))
 rw [hW0]
 clear hW0 hE0 hb0
 have HU := hid (show u64 (n : Int) = n from by unfold u64; omega)
 go_loopw [4, 5] (fun o i wr => ∃ (j : Nat) (ys : List UInt8), j ≤ 8 ∧ i = .int .i64 ((j : Int) - 1) ∧ ys.length + j = 8 ∧ ys ++ beN n j = beN n 8 ∧ Own EU8 wr W0.heap.size TU8 (fun _ => False) o ys ∧ Ext W0 wr) (fun _ i _ => (intOf i + 1).toNat)
 case atStart => exact ⟨8, [], by omega, rfl, rfl, rfl, Own.nil _ _ _ _, Keep.refl _ _⟩
 case round =>
  obtain ⟨j, ys, hj, rfl, hyl, hys, hown, hE⟩ := hrel
  have HYL := hid hyl
  have HYS := hid hys
  have HO := hid hown
  have HE := hid hE
  obtain ⟨A, c, rfl, hlc, hcm⟩ := hown.shape
  have hbr := HB0.out.keep hE id
  have x0 := hbr.cell 0
  have x1 := hbr.cell 1
  have x2 := hbr.cell 2
  have x3 := hbr.cell 3
  have x4 := hbr.cell 4
  have x5 := hbr.cell 5
  have x6 := hbr.cell 6
  simp only [List.getElem?_toArray, List.getElem?_cons_succ, List.getElem?_cons_zero] at x0 x1 x2 x3 x4 x5 x6
  rcases j with _ | j
  ·have e0 : ys = beN n 8 := by have := HYS.out; rw [beN, List.append_nil] at this; exact this
   subst e0
   have hyl8 : (beN n 8).length = 8 := beN_len _ _
   have HSZ := hid (show w.heap.size < W0.heap.size from HB0.out.lt)
   have HB8 := hid (HB0.out)
   rw [hyl8] at HO
   clear hyl hys hown hE hlc hcm hbr
   have HOG := hid (fun g hg => HO.out.lt (g := g) hg)
   cases th with
   | false =>
    have hnew := bytes_new (w := wr) (t := TU8) (f := (0, 0)) [0] (by simp [maxLen])
    rw [show [(0 : UInt8)].map U8 = [Value.int .u8 0] from rfl] at hnew
    have hE1 : Ext wr (wr.alloc (.cells [Value.int .u8 0].toArray TU8)) := (Keep.refl _ _).alloc _
    have HV2 := hid hnew
    have HO2 := hid (HO.out.ext EU8.ok hE1)
    have HE2 := hid (HE.out.ext hE1)
    clear hnew hE1
    go_wp2_with (at_builtin; refine wpList_own_append (E := EU8) _ rfl (.tmp 24) (.tmp 25) EU8.ok ty_u8 rfl rfl rfl HO2.out HV2.out ?c1 ?c2 ?c4 ?c3 ?_)
    case c1 => intro g hg; exact ⟨id, fun h => by have := (HOG.out g hg).2; omega⟩
    case c2 => rw [hyl8]; decide
    case c4 => rw [hyl8]; decide
    case c3 => have := HE2.out.size; omega
    intro v' w' h3 h6 h7
    obtain ⟨A', c', rfl, h4, h5⟩ := h3.shape
    have HR := hid (show ShBIs w ⟨(n : Int), false, sv⟩ (.returned (.tuple #[.slice A' (beN n 8 ++ [0]).length c', .int .u16 0])) w' from
     ⟨_, rfl, by
      have h9 : shB ⟨(n : Int), false, sv⟩ = beN n 8 ++ [0] := by unfold shB; rw [HU.out]; rfl
      rw [h9]
      exact ((show Own EU8 w' W0.heap.size TU8 (fun _ => False) _ _ from own_u8 h3).sl EU8.ok).more EU8.ok fun q _ h => h.elim (fun h => h.elim) fun h => by have := (h3.lt h).1; have := HSZ.out; omega,
      HE0.out.trans (HE2.out.trans h6 (fun k hk e => by have := (HOG.out k e).1; omega)) (fun k hk e => e)⟩)
    rw [show (beN n 8 ++ [(0 : UInt8)]).length = 9 by simp [beN_len]] at HR ⊢
    clear h3 h6 h7 x0 x1 x2 x3 x4 x5 x6
    go_wp2
    go_ret2
    exact HR.out
   | true =>
    go_wp2_with fail
    refine (pval10_ok w0 HVA.out sv HWI.out _ S wr (H0.out.ext (HE0.out.ext HE.out)) (HV.out.ext (HE0.out.ext HE.out))).mono ?_
    rintro e w1 ⟨u1, rfl, hu1, hE1⟩
    have HO1 := hid ((HO.out.ext EU8.ok hE1).sl EU8.ok)
    have HU1 := hid (hu1.sl EU8.ok)
    have HE1 := hid ((HE0.out.ext HE.out).ext hE1)
    obtain ⟨A3, c3, rfl, _, _⟩ := hu1.shape
    clear hu1 hE1 x0 x1 x2 x3 x4 x5 x6
    go_wp2_with fail
    have hEa : Ext w1 (w1.alloc (.cells #[.int .u8 1] TU8)) := (Keep.refl _ _).alloc _
    have hone := bytes_new (w := w1) (t := TU8) (f := (0, 0)) [1] (by simp [maxLen])
    rw [show [(1 : UInt8)].map U8 = [Value.int .u8 1] from rfl] at hone
    have HEA := hid (HE1.out.ext hEa)
    have h3 := sl_three (t := 46) (f := (0, 0)) (S := fun _ => True) ((HO1.out.ext EU8.ok hEa).more EU8.ok fun _ _ _ => trivial) (hone.more EU8.ok fun _ _ _ => trivial) ((HU1.out.ext EU8.ok hEa).more EU8.ok fun _ _ _ => trivial)
    rw [World.size_alloc] at h3
    refine (concat_any _ [beN n 8, [1], valB sv] _ _ h3 (by have := valB_len sv; simp [beN_len]; omega)).mono ?_
    rintro e w5 ⟨v5, rfl, ho5, hE5⟩
    have h9 : shB ⟨(n : Int), true, sv⟩ = [beN n 8, [1], valB sv].flatten := by unfold shB; rw [HU.out]; simp
    have HR := hid (show ShBIs w ⟨(n : Int), true, sv⟩ (.returned (.tuple #[v5, .int .u16 (valC sv)])) w5 from
     ⟨_, rfl, by rw [h9]; exact (ho5.sl EU8.ok).more EU8.ok fun q _ h => h.elim (fun h => h.elim) fun h => by have := (ho5.lt h).1; have := HEA.out.size; simp at *; omega,
      (HEA.out.alloc _).ext hE5⟩)
    clear h3 ho5 hE5 h9 hEa hone
    go_wp2
    go_ret2
    exact HR.out
  ·have hnew := bytes_new (w := wr) (t := TU8) (f := (0, 0)) [UInt8.ofNat (n / 256 ^ j)] (by simp [maxLen])
   have hu : [UInt8.ofNat (n / 256 ^ j)].map U8 = [Value.int .u8 ((n : Int) / 2 ^ (8 * j) % 256)] := by
    simp only [List.map_cons, List.map_nil, U8, UInt8.toNat_ofNat']
    rw [show (256 : Nat) ^ j = 2 ^ (8 * j) by rw [Nat.pow_mul]]
    simp
   rw [hu] at hnew
   have hsh : Op.shift .shr .i64 (n : Int) .i64 (IntKind.i64.wrap (8 * (j : Int))) = pure (.int .i64 ((n : Int) / 2 ^ (8 * j))) := by
    have h80 : (0 : Int) ≤ 8 * (j : Int) := by omega
    have h81 : 8 * (j : Int) ≤ (64 : Nat) := by omega
    have h82 : (8 * (j : Int)).toNat = 8 * j := by omega
    have h83 := shift_shr .i64 .i64 (n : Int) (8 * (j : Int)) h80 h81
    rw [h82] at h83
    rw [IntWalk.i64_in _ (by omega)]
    exact h83
   have hE1 : Ext wr (wr.alloc (.cells [Value.int .u8 ((n : Int) / 2 ^ (8 * j) % 256)].toArray TU8)) := (Keep.refl _ _).alloc _
   have HV2 := hid hnew
   have HO2 := hid (hown.ext EU8.ok hE1)
   have HE2 := hid (hE.ext hE1)
   have HOG := hid (fun g hg => hown.lt (g := g) hg)
   have HNX := hid (show (ys ++ [UInt8.ofNat (n / 256 ^ j)]) ++ beN n j = beN n 8 from by rw [List.append_assoc]; exact HYS.out)
   have e1 : ((j + 1 : Nat) : Int) - 1 = (j : Int) := by omega
   rw [e1]
   clear hnew hu hE1 hown hE hyl hys hlc hcm hbr e1
   generalize UInt8.ofNat (n / 256 ^ j) = byte at *
   go_wp2_with (at_builtin; refine wpList_own_append (E := EU8) _ rfl (.tmp 12) (.tmp 19) EU8.ok ty_u8 rfl rfl rfl HO2.out HV2.out ?c1 ?c2 ?c4 ?c3 ?_)
   case c1 => intro g hg; exact ⟨id, fun h => by have := (HOG.out g hg).2; omega⟩
   case c2 => have := HYL.out; simp; omega
   case c4 => have := HYL.out; simp [maxLen]; omega
   case c3 => have := HE2.out.size; omega
   intro v' w' h3 h6 h7
   obtain ⟨A', c', rfl, h4, h5⟩ := h3.shape
   have HO3 := hid (show Own EU8 w' W0.heap.size TU8 (fun _ => False) _ _ from own_u8 h3)
   have HE3 := hid (HE2.out.trans h6 (fun k hk e => by have := (HOG.out k e).1; omega))
   clear h3 h6 h7 x0 x1 x2 x3 x4 x5 x6
   go_wp2
   exact ⟨⟨j, ys ++ [byte], by omega, rfl, by have := HYL.out; simp; omega, HNX.out, HO3.out, HE3.out⟩, by simp [intOf]⟩
abbrev TRDR : Nat := 185
def RdrAt (w : World) (S : BS) (b : Nat) (d : Int) (bs : List UInt8) : Prop := ∃ v, Blk w b TRDR #[v, .int .i64 d] ∧ BytesS w S v bs ∧ ¬ S b
theorem RdrAt.keep {F : Nat → Prop} {w w' : World} {S : BS} {b : Nat} {d : Int} {bs : List UInt8} (h : RdrAt w S b d bs) (hk : Keep F w w') (hb : ¬ F b) (hS : ∀ k, S k → ¬ F k) : RdrAt w' S b d bs := by
 obtain ⟨v, h1, h2, h3⟩ := h
 exact ⟨v, h1.keep hk hb, Sl.keep EU8.ok h2 hk hS, h3⟩
theorem RdrAt.ext {w w' : World} {S : BS} {b : Nat} {d : Int} {bs : List UInt8} (h : RdrAt w S b d bs) (hk : Ext w w') : RdrAt w' S b d bs := h.keep hk id fun _ _ x => x
theorem RdrAt.lt {w : World} {S : BS} {b : Nat} {d : Int} {bs : List UInt8} (h : RdrAt w S b d bs) : b < w.heap.size := by obtain ⟨v, h1, _⟩ := h; exact h1.lt
theorem deN_byte (k : UInt8) : deN [k] = k.toNat := by simp [deN]
def RCutIs (w : World) (S : BS) (b : Nat) (d : Int) (bs : List UInt8) (k : Nat) (e : Ending) (w' : World) : Prop :=
 ∃ A c, e = .returned (.slice A k c) ∧ BytesS w' S (.slice A k c) (bs.take k) ∧ RdrAt w' S b d (bs.drop k) ∧ Keep (· = b) w w'
theorem cut_ok (w : World) (S : BS) (b : Nat) (d : Int) (bs : List UInt8) (k : Nat) (h : RdrAt w S b d bs) (hk : k ≤ bs.length) :
  Calls Tryz.prog 132 #[.pointer (some ⟨b, 0, none⟩), .int .i64 k] w (RCutIs w S b d bs k) := by
 obtain ⟨v, hb, hv, hS⟩ := h
 obtain ⟨A, c, rfl, hlc, hcm⟩ := hv.shape
 obtain ⟨f1, f2⟩ := front_fact (P := Tryz.prog) EU8.ok ty_u8 hv (b := (k : Int)) (hi := k) rfl hk
 obtain ⟨A2, g1, g2⟩ := tail_fact (P := Tryz.prog) EU8.ok ty_u8 hv (a := (k : Int)) (lo := k) rfl hk
 have x0 := hb.cell 0
 have z0 := hb.frozen 0
 simp only [List.getElem?_toArray, List.getElem?_cons_zero] at x0
 obtain ⟨n, hn⟩ : ∃ n, bs.length = n := ⟨_, rfl⟩
 have HN := hid hn
 have HB := hid hb
 have HF2 := hid f2
 have HG2 := hid g2
 rw [hn] at x0 f1 g1 hk
 have hkX : (k : Int) ≤ n := by omega
 have hkN : ¬ (n : Int) < k := by omega
 clear hb hv hn hlc hcm f2 g2
 go_enter Tryz.func132, Tryz.ntmps132
 go_wp2
 go_ret
 have hk1 : Keep (· = b) w (w.setCell ⟨b, 0, none⟩ (.slice A2 (n - k) (c - k))) := (Keep.refl _ _).set1 0 _
 have hne : ∀ q, S q → ¬ q = b := fun q hq e => hS (e ▸ hq)
 refine ⟨A, c, rfl, Sl.keep EU8.ok HF2.out hk1 hne, ⟨_, by simpa using HB.out.set_ 0 (.slice A2 (n - k) (c - k)), ?_, hS⟩, hk1⟩
 have := Sl.keep EU8.ok HG2.out hk1 hne
 rw [HN.out] at this
 exact this
theorem take8_ok (w : World) (S : BS) (b : Nat) (d : Int) (bs : List UInt8) (width : Nat) (hw : width ≤ 8) (h : RdrAt w S b d bs) (hk : width ≤ bs.length) :
  Calls Tryz.prog 110 #[.pointer (some ⟨b, 0, none⟩), .int .i64 width] w fun e w' => e = .returned (.int .u8 (IntKind.wrap .u8 (deN (bs.take width)))) ∧ RdrAt w' S b d (bs.drop width) ∧ Keep (· = b) w w' := by
 have H := hid h
 have HK := hid hk
 have hwX : (width : Int) ≤ 8 := by omega
 clear h hk
 go_enter Tryz.func110, Tryz.ntmps110
 go_wp2_with fail
 refine (cut_ok w S b d bs width H.out HK.out).mono ?_
 rintro e w1 ⟨A, c, rfl, hv, hr, hk1⟩
 have HR := hid (And.intro hr hk1)
 obtain ⟨A1, c1, e1, hlc, hcm⟩ := hv.shape
 have hlen : (bs.take width).length = width := by rw [List.length_take]; have := HK.out; omega
 obtain ⟨l, hl⟩ : ∃ l, bs.take width = l := ⟨_, rfl⟩
 rw [hl] at hv hlen
 have HV := hid hv
 have HLEN := hid hlen
 have HL := hid hl
 clear hr hk1 e1 hlc hcm hv hlen hl
 go_wp2_with fail
 go_loop [5, 12] (fun s i => ∃ k : Nat, k ≤ width ∧ i = .int .i64 k ∧ s = .int .u64 (deN (l.take k) : Nat)) (fun _ i => width - (intOf i).toNat)
 case atStart => exact ⟨0, by omega, rfl, rfl⟩
 case round =>
  obtain ⟨k, hk, rfl, rfl⟩ := hrel
  by_cases hlt : k < width
  ·have hkl : k < l.length := by have := HLEN.out; omega
   obtain ⟨b1, off, rfl, hb, hsz, hc⟩ := bytesS_at HV.out hkl
   have hlk := deN_lt (l.take k)
   have hlk2 : (l.take k).length = k := by rw [List.length_take]; omega
   rw [hlk2] at hlk
   have hx := (l[k]'hkl).toNat_lt
   have hs := take_succ_get l k hkl
   generalize l[k]'hkl = x at *
   have HS := hid (show deN (l.take (k + 1)) = deN (l.take k) * 256 + x.toNat from by rw [hs, deN_snoc]; omega)
   clear hs hlk2
   have hm : deN (l.take k) < 72057594037927936 := by
    have : (256 : Nat) ^ k ≤ 256 ^ 7 := Nat.pow_le_pow_right (by omega) (by omega)
    omega
   generalize deN (l.take k) = m at *
   clear hlk
   have ho : bits .or .u64 ((m : Int) * 256) (x.toNat : Int) = ((m * 256 + x.toNat : Nat) : Int) := by
    rw [show ((m : Int) * 256) = ((m * 256 : Nat) : Int) from by omega, u64_or_nat _ _ (by omega) (by omega)]
    congr 1
    have := Nat.shiftLeft_add_eq_or_of_lt (b := x.toNat) (i := 8) hx m
    rw [Nat.shiftLeft_eq] at this
    exact this.symm
   have HO := hid ho
   have hjX : (k : Int) < width := by omega
   clear ho hkl
   go_wp2
   exact ⟨⟨k + 1, by omega, by go_num, by rw [HO.out, HS.out]⟩, by simp [intOf]; omega⟩
  ·obtain rfl : k = width := by omega
   have hT : l.take k = l := by rw [List.take_of_length_le]; have := HLEN.out; omega
   rw [hT]
   clear hT
   go_wp2
   go_ret
   rw [HL.out]
   exact ⟨rfl, HR.out.1, HR.out.2⟩
theorem take64_ok (w : World) (S : BS) (b : Nat) (d : Int) (bs : List UInt8) (width : Nat) (hw : width ≤ 8) (h : RdrAt w S b d bs) (hk : width ≤ bs.length) :
  Calls Tryz.prog 111 #[.pointer (some ⟨b, 0, none⟩), .int .i64 width] w fun e w' => e = .returned (.int .i64 (wrap64 (deN (bs.take width)))) ∧ RdrAt w' S b d (bs.drop width) ∧ Keep (· = b) w w' := by
 have H := hid h
 have HK := hid hk
 have hwX : (width : Int) ≤ 8 := by omega
 clear h hk
 go_enter Tryz.func111, Tryz.ntmps111
 go_wp2_with fail
 refine (cut_ok w S b d bs width H.out HK.out).mono ?_
 rintro e w1 ⟨A, c, rfl, hv, hr, hk1⟩
 have HR := hid (And.intro hr hk1)
 obtain ⟨A1, c1, e1, hlc, hcm⟩ := hv.shape
 have hlen : (bs.take width).length = width := by rw [List.length_take]; have := HK.out; omega
 obtain ⟨l, hl⟩ : ∃ l, bs.take width = l := ⟨_, rfl⟩
 rw [hl] at hv hlen
 have HV := hid hv
 have HLEN := hid hlen
 have HL := hid hl
 clear hr hk1 e1 hlc hcm hv hlen hl
 go_wp2_with fail
 go_loop [5, 12] (fun s i => ∃ k : Nat, k ≤ width ∧ i = .int .i64 k ∧ s = .int .u64 (deN (l.take k) : Nat)) (fun _ i => width - (intOf i).toNat)
 case atStart => exact ⟨0, by omega, rfl, rfl⟩
 case round =>
  obtain ⟨k, hk, rfl, rfl⟩ := hrel
  by_cases hlt : k < width
  ·have hkl : k < l.length := by have := HLEN.out; omega
   obtain ⟨b1, off, rfl, hb, hsz, hc⟩ := bytesS_at HV.out hkl
   have hlk := deN_lt (l.take k)
   have hlk2 : (l.take k).length = k := by rw [List.length_take]; omega
   rw [hlk2] at hlk
   have hx := (l[k]'hkl).toNat_lt
   have hs := take_succ_get l k hkl
   generalize l[k]'hkl = x at *
   have HS := hid (show deN (l.take (k + 1)) = deN (l.take k) * 256 + x.toNat from by rw [hs, deN_snoc]; omega)
   clear hs hlk2
   have hm : deN (l.take k) < 72057594037927936 := by
    have : (256 : Nat) ^ k ≤ 256 ^ 7 := Nat.pow_le_pow_right (by omega) (by omega)
    omega
   generalize deN (l.take k) = m at *
   clear hlk
   have ho : bits .or .u64 ((m : Int) * 256) (x.toNat : Int) = ((m * 256 + x.toNat : Nat) : Int) := by
    rw [show ((m : Int) * 256) = ((m * 256 : Nat) : Int) from by omega, u64_or_nat _ _ (by omega) (by omega)]
    congr 1
    have := Nat.shiftLeft_add_eq_or_of_lt (b := x.toNat) (i := 8) hx m
    rw [Nat.shiftLeft_eq] at this
    exact this.symm
   have HO := hid ho
   have hjX : (k : Int) < width := by omega
   clear ho hkl
   go_wp2
   exact ⟨⟨k + 1, by omega, by go_num, by rw [HO.out, HS.out]⟩, by simp [intOf]; omega⟩
  ·obtain rfl : k = width := by omega
   have hT : l.take k = l := by rw [List.take_of_length_le]; have := HLEN.out; omega
   rw [hT]
   clear hT
   go_wp2
   go_ret
   rw [HL.out]
   exact ⟨rfl, HR.out.1, HR.out.2⟩
theorem takeI_ok (w : World) (S : BS) (b : Nat) (d : Int) (bs : List UInt8) (width : Nat) (hw : width ≤ 8) (h : RdrAt w S b d bs) (hk : width ≤ bs.length) :
  Calls Tryz.prog 133 #[.pointer (some ⟨b, 0, none⟩), .int .i64 width] w fun e w' => e = .returned (.int .i64 (wrap64 (deN (bs.take width)))) ∧ RdrAt w' S b d (bs.drop width) ∧ Keep (· = b) w w' := by
 have H := hid h
 have HK := hid hk
 have hwX : (width : Int) ≤ 8 := by omega
 clear h hk
 go_enter Tryz.func133, Tryz.ntmps133
 go_wp2_with fail
 refine (cut_ok w S b d bs width H.out HK.out).mono ?_
 rintro e w1 ⟨A, c, rfl, hv, hr, hk1⟩
 have HR := hid (And.intro hr hk1)
 obtain ⟨A1, c1, e1, hlc, hcm⟩ := hv.shape
 have hlen : (bs.take width).length = width := by rw [List.length_take]; have := HK.out; omega
 obtain ⟨l, hl⟩ : ∃ l, bs.take width = l := ⟨_, rfl⟩
 rw [hl] at hv hlen
 have HV := hid hv
 have HLEN := hid hlen
 have HL := hid hl
 clear hr hk1 e1 hlc hcm hv hlen hl
 go_wp2_with fail
 go_loop [5, 12] (fun s i => ∃ k : Nat, k ≤ width ∧ i = .int .i64 k ∧ s = .int .u64 (deN (l.take k) : Nat)) (fun _ i => width - (intOf i).toNat)
 case atStart => exact ⟨0, by omega, rfl, rfl⟩
 case round =>
  obtain ⟨k, hk, rfl, rfl⟩ := hrel
  by_cases hlt : k < width
  ·have hkl : k < l.length := by have := HLEN.out; omega
   obtain ⟨b1, off, rfl, hb, hsz, hc⟩ := bytesS_at HV.out hkl
   have hlk := deN_lt (l.take k)
   have hlk2 : (l.take k).length = k := by rw [List.length_take]; omega
   rw [hlk2] at hlk
   have hx := (l[k]'hkl).toNat_lt
   have hs := take_succ_get l k hkl
   generalize l[k]'hkl = x at *
   have HS := hid (show deN (l.take (k + 1)) = deN (l.take k) * 256 + x.toNat from by rw [hs, deN_snoc]; omega)
   clear hs hlk2
   have hm : deN (l.take k) < 72057594037927936 := by
    have : (256 : Nat) ^ k ≤ 256 ^ 7 := Nat.pow_le_pow_right (by omega) (by omega)
    omega
   generalize deN (l.take k) = m at *
   clear hlk
   have ho : bits .or .u64 ((m : Int) * 256) (x.toNat : Int) = ((m * 256 + x.toNat : Nat) : Int) := by
    rw [show ((m : Int) * 256) = ((m * 256 : Nat) : Int) from by omega, u64_or_nat _ _ (by omega) (by omega)]
    congr 1
    have := Nat.shiftLeft_add_eq_or_of_lt (b := x.toNat) (i := 8) hx m
    rw [Nat.shiftLeft_eq] at this
    exact this.symm
   have HO := hid ho
   have hjX : (k : Int) < width := by omega
   clear ho hkl
   go_wp2
   exact ⟨⟨k + 1, by omega, by go_num, by rw [HO.out, HS.out]⟩, by simp [intOf]; omega⟩
  ·obtain rfl : k = width := by omega
   have hT : l.take k = l := by rw [List.take_of_length_le]; have := HLEN.out; omega
   rw [hT]
   clear hT
   go_wp2
   go_ret
   rw [HL.out]
   exact ⟨rfl, HR.out.1, HR.out.2⟩
theorem take_app {a r : List UInt8} {k : Nat} (h : a.length = k) : (a ++ r).take k = a := List.take_left' h
theorem drop_app {a r : List UInt8} {k : Nat} (h : a.length = k) : (a ++ r).drop k = r := List.drop_left' h
theorem many_ok (w : World) (S : BS) (b : Nat) (d : Int) (n k : Nat) (r : List UInt8) (hk : k ≤ 4) (hn : n < 256 ^ k) (hr : n ≤ r.length) (h : RdrAt w S b d (beN n k ++ r)) :
  Calls Tryz.prog 113 #[.pointer (some ⟨b, 0, none⟩), .int .i64 k] w fun e w' => e = .returned (.int .i64 (n : Int)) ∧ RdrAt w' S b d r ∧ Keep (· = b) w w' := by
 have H := hid h
 have HR := hid hr
 have HN := hid hn
 have hn4 : n < 4294967296 := Nat.lt_of_lt_of_le hn (by have := Nat.pow_le_pow_right (n := 256) (by omega) hk; simpa using this)
 clear h hr hn
 go_enter Tryz.func113, Tryz.ntmps113
 go_wp2_with fail
 refine (takeI_ok w S b d _ k (by omega) H.out (by rw [List.length_append, beN_len]; omega)).mono ?_
 rintro e w1 ⟨rfl, h1, hk1⟩
 rw [drop_app (beN_len n k)] at h1
 rw [take_app (beN_len n k), deN_beN, Nat.mod_eq_of_lt HN.out, show wrap64 (n : Int) = n from by unfold wrap64; omega]
 have H1 := hid (And.intro h1 hk1)
 obtain ⟨v, hb, hv, hS⟩ := h1
 obtain ⟨A, c, rfl, hlc, hcm⟩ := hv.shape
 have x0 := hb.cell 0
 simp only [List.getElem?_toArray, List.getElem?_cons_zero] at x0
 have hnr : ¬ (r.length : Int) < n := by have := HR.out; omega
 clear hb hv hlc hcm hk1
 go_wp2
 go_ret
 exact ⟨rfl, H1.out.1, H1.out.2⟩
theorem text_ok (w : World) (S : BS) (b : Nat) (d : Int) (s : ByteArray) (r : List UInt8) (hs : s.size < 4294967296) (h : RdrAt w S b d (encT s ++ r)) :
  Calls Tryz.prog 112 #[.pointer (some ⟨b, 0, none⟩)] w fun e w' => e = .returned (.string s) ∧ RdrAt w' S b d r ∧ Keep (· = b) w w' := by
 have H := hid h
 clear h
 go_enter Tryz.func112, Tryz.ntmps112
 go_wp2_with fail
 refine (many_ok w S b d s.size 4 (byt s ++ r) (by omega) (Nat.lt_of_lt_of_le hs (by decide)) (by rw [List.length_append, byt_len]; omega) (by have := H.out; unfold encT at this; rw [List.append_assoc] at this; exact this)).mono ?_
 rintro e w1 ⟨rfl, h1, hk1⟩
 have H1 := hid h1
 have HK := hid hk1
 clear h1 hk1
 go_wp2_with fail
 refine (cut_ok w1 S b d _ s.size H1.out (by rw [List.length_append, byt_len]; omega)).mono ?_
 rintro e w2 ⟨A, c, rfl, hv, h2, hk2⟩
 rw [take_app (byt_len s)] at hv
 rw [drop_app (byt_len s)] at h2
 have hc := convert_bytesS hv
 have H2 := hid h2
 have HK2 := hid (HK.out.trans hk2 fun _ _ e => e)
 have ht : textOf (byt s) = s := by unfold textOf byt; simp
 rw [ht] at hc
 clear h2 hk2 hv ht
 go_wp2
 go_ret
 exact ⟨rfl, H2.out, HK2.out⟩
end Go.Proofs.YtihaliffcobacaaGreatDoor
