/- SnapK, SnapH, SnapF, SnapG, Snap2A, FrameR: laid together. -/
import Derived.Test.YtihaliffcobacaaGreatDoorSbB33
import Derived.Test.YtihaliffcobacaaGreatDoorSbB31
import Derived.Test.YtihaliffcobacaaGreatDoorSbB26
import Derived.Test.YtihaliffcobacaaGreatDoorSbB2
import Derived.Test.YtihaliffcobacaaGreatDoorSbB5
import Derived.Test.YtihaliffcobacaaGreatDoorSbB20
import Derived.Test.YtihaliffcobacaaGreatDoorSbB25
import Derived.Test.YtihaliffcobacaaGreatDoorSbB22
import Derived.Test.YtihaliffcobacaaGreatDoorSbB14
import Derived.Test.YtihaliffcobacaaGreatDoorSbB32
set_option linter.unusedSimpArgs false
set_option linter.unusedVariables false
set_option maxHeartbeats 25600000
set_option maxRecDepth 20000
namespace Go.Proofs.YtihaliffcobacaaGreatDoor
open Go.RowKit
def vI (n : Int) : V := .mk 2 n ⟨#[]⟩ [] []
theorem vI_sv (n : Int) : SVd 0 (vI n) := ⟨by unfold vI; rw [SV]; exact ⟨.inr (.inr (.inl ⟨rfl, rfl, rfl, rfl⟩)), by rw [SVs]; trivial, by rw [SFs]; trivial, by first | trivial | simp [Rise]⟩,
 by unfold vI; simp [V.deep, V.deeps, F.deeps], by unfold vI; rw [VStr]; exact ⟨by decide, by rw [VStrs]; trivial, by rw [FStrs]; trivial⟩⟩
theorem vI_size (n : Int) : (vI n).size ≤ 241 := by unfold vI; rw [V.size, V.sizes, F.sizes]; decide
theorem vI_at {w : World} {S : BS} (n : Int) : VAt w S (.agg #[.int .u8 2, .int .i64 n, .string ⟨#[]⟩, .slice none 0 0, .slice none 0 0]) (vI n) := ⟨_, _, rfl, Sl.nil _ _, Sl.nil _ _⟩
theorem zV_at {w : World} {S : BS} : VAt w S (.agg #[.int .u8 0, .int .i64 0, .string ⟨#[]⟩, .slice none 0 0, .slice none 0 0]) zV := ⟨_, _, rfl, Sl.nil _ _, Sl.nil _ _⟩
def sh7 : Sh := ⟨3, true, vI 7⟩
theorem sh7_ok : ShOk sh7 ∧ Wide sh7.v ∧ (shB sh7).length = 18 := by
 obtain ⟨h1, h2, h3⟩ := built_good (vI_sv 7) (vI_size 7)
 have hc : valC (vI 7) = 0 := by unfold valC; rw [if_pos h2, if_neg (by omega)]
 have hb : valB (vI 7) = encV (vI 7) := by unfold valB; rw [if_pos hc]
 have he : (encV (vI 7)).length = 9 := by unfold vI; rw [encV]; simp [beN_len]
 have hl : (shB sh7).length = 18 := by unfold shB sh7; simp [beN_len, hb, he]
 refine ⟨⟨by decide, by decide, fun h => Bool.noConfusion h, by unfold shC; rw [if_pos (by rfl)]; exact hc, ?_, by omega⟩, h1, hl⟩
 show NAll N64 (vI 7)
 unfold vI; rw [NAll, NAlls, NFAlls]; exact ⟨⟨by decide, by decide⟩, trivial, trivial⟩
set_option maxRecDepth 100000 in
theorem known15_ok (w0 : World) (hva : ValAny w0) (w : World) (h0 : Ext w0 w) :
  Calls Tryz.prog 7 #[] w fun e w' => e = .returned (.bool true) ∧ Ext w w' := by
 have hpe := eql_pdsk
 have HVA := hid hva
 have H0 := hid h0
 clear hva h0
 go_enter Tryz.func7, Tryz.ntmps7
 go_wp2_with fail
 refine (disk_new_w w w 900 (by decide) (Keep.refl _ _)).mono ?_
 rintro e w1 ⟨d, B, rfl, hD, hlow, hE⟩
 have HD := hid hD
 have HE := hid hE
 clear hD hlow hE
 go_wp2_with fail
 refine (save_ok w0 HVA.out w1 B d [] _ ⟨#[97]⟩ sh7 sh7_ok.2.1 (H0.out.ext HE.out) HD.out.is (by decide) (fun _ => False) _ ⟨_, _, _, _, _, rfl, vI_at 7⟩).mono ?_
 rintro e w2 ⟨he, hd, hk⟩
 have hsv : saveR [] ⟨900, false, -1⟩ ⟨#[97]⟩ sh7 = (0, oneF ⟨#[97]⟩ [shB sh7], ⟨900, false, -1⟩) := by
  have := save_one (nm := ⟨#[97]⟩) (ls := []) (R := 900) (sh := sh7) (by decide) (by decide) sh7_ok.1 (by rw [sh7_ok.2.2]; decide)
  exact this
 rw [hsv] at he hd
 obtain rfl : e = .returned (.int .u16 0) := he
 have hD : DskW w w2 _ d (oneF ⟨#[97]⟩ [shB sh7]) ⟨900, false, -1⟩ := HD.out.grow hk hd
 clear hd hk hsv
 generalize moreB B w1 w2 = B2 at *
 replace HD := hid hD
 clear hD
 go_wp2_with fail
 have hrd : (readR (oneF ⟨#[97]⟩ [shB sh7]) (byt (fileT ⟨#[97]⟩))).2 = rowsL [shB sh7] := read_one _ _
 have hxl : ∀ x ∈ [shB sh7], x.length ≤ 60000 := fun x hx => by rw [List.mem_singleton.1 hx, sh7_ok.2.2]; decide
 refine (load_some w0 HVA.out w2 (H0.out.ext HD.out.ext) B2 d _ _ ⟨#[97]⟩ HD.out.is (by decide) [] sh7 sh7_ok.1 sh7_ok.2.1 (by rw [hrd, lensL_rows]; simp [lensL, sh7_ok.2.2]) (by rw [hrd, scan_rows _ hxl]; rfl)).mono ?_
 rintro e w3 ⟨u, rfl, ⟨a0, a1, a2, a3, a4, rfl, lv, ov, e1, hl, ho⟩, hE3⟩
 clear hrd hxl
 simp only [Value.agg.injEq, Array.mk.injEq, List.cons.injEq, and_true] at e1
 obtain ⟨rfl, rfl, rfl, rfl, rfl⟩ := e1
 obtain ⟨A4, c4, rfl, _⟩ := hl.shape
 obtain ⟨A5, c5, rfl, _⟩ := ho.shape
 obtain ⟨W3, hW3⟩ : ∃ W3, w3.alloc (.cells #[.int .i64 sh7.n, .bool sh7.there, U8 sh7.v.kind, .int .i64 sh7.v.n, .string sh7.v.s, .slice A4 sh7.v.l.length c4, .slice A5 sh7.v.o.length c5] TSHOT) = W3 := ⟨_, rfl⟩
 have hE4 : Ext w3 W3 := by rw [← hW3]; exact (Keep.refl _ _).alloc _
 have HBX := hid (show Blk W3 w3.heap.size TSHOT #[.int .i64 3, .bool true, .int .u8 2, .int .i64 7, .string ⟨#[]⟩, .slice A4 0 c4, .slice A5 0 c5] from by rw [← hW3]; exact Blk.new _ _ _)
 have HW3 := hid hW3
 replace HD := hid ((HD.out.more hE3).more hE4)
 clear hl ho hE3 hE4 hW3
 go_wp2_with fail
 have hrb : (readR (oneF ⟨#[97]⟩ [shB sh7]) (byt (fileT ⟨#[98]⟩))).2 = [] := by
  rw [one_last (by simp)]
  simp [readR, findC, show (byt (fileT ⟨#[97]⟩) == byt (fileT ⟨#[98]⟩)) = false from by decide]
 rw [show w3.alloc (.cells #[.int .i64 sh7.n, .bool sh7.there, U8 sh7.v.kind, .int .i64 sh7.v.n, .string sh7.v.s, .slice A4 sh7.v.l.length c4, .slice A5 sh7.v.o.length c5] TSHOT) = W3 from HW3.out]
 refine (load_no w0 HVA.out W3 (H0.out.ext HD.out.ext) B2 d _ _ ⟨#[98]⟩ HD.out.is (by decide) (by rw [hrb]; decide) (by rw [hrb, scanL_none openL_nil])).mono ?_
 rintro e w4 ⟨rfl, hE5⟩
 clear hrb
 replace HD := hid (HD.out.more hE5)
 obtain ⟨x0, x1, x2, x3, _, _, _⟩ := blk7s (HBX.out.keep hE5 id)
 have y0 : ∀ o, (w4.alloc o).cell? ⟨w3.heap.size, 0, none⟩ = some (.int .i64 3) := fun o => ((HBX.out.keep hE5 id).alloc o).cell 0
 have y1 : ∀ o, (w4.alloc o).cell? ⟨w3.heap.size, 1, none⟩ = some (.bool true) := fun o => ((HBX.out.keep hE5 id).alloc o).cell 1
 have y3 : ∀ o, (w4.alloc o).cell? ⟨w3.heap.size, 3, none⟩ = some (.int .i64 7) := fun o => ((HBX.out.keep hE5 id).alloc o).cell 3
 clear hE5 x0 x1 x2 x3
 go_wp2_with fail
 refine (save_ok w0 HVA.out _ B2 d _ _ ⟨#[]⟩ ⟨0, false, zV⟩ zV_wide (H0.out.ext (HD.out.ext.alloc _)) (HD.out.is.ext ((Keep.refl _ _).alloc _)) (by decide) (fun _ => False) _ ⟨_, _, _, _, _, rfl, zV_at⟩).mono ?_
 rintro e w5 ⟨he, hd, hk⟩
 rw [saveR_bad (show saveE ⟨#[]⟩ ⟨0, false, zV⟩ = 150 from if_pos (Or.inl rfl))] at he
 obtain rfl : e = .returned (.int .u16 150) := he
 have HEND := hid ((HD.out.more ((Keep.refl _ _).alloc _)).grow hk hd).ext
 clear hd hk
 go_wp2
 go_ret
 exact ⟨by first | rfl | simp, HEND.out⟩
def LenB (w : World) (n : Nat) (e : Ending) (w' : World) : Prop := (∃ b : Bool, e = .returned (.bool b) ∧ (b = true ∨ n ≤ 30)) ∧ w' = w
set_option maxRecDepth 100000 in
theorem heavy15_len (w : World) (S : BS) (A : Option Addr) (c : Nat) (rs : List Rs) (h : Sl ERs w S (.slice A rs.length c) rs) :
  Calls Tryz.prog 6 #[.slice A rs.length c] w (LenB w rs.length) := by
 obtain ⟨n1, hn1⟩ : ∃ n1, rs.length = n1 := ⟨_, rfl⟩
 have HN1 := hid hn1
 obtain ⟨A', c', e, hlc, hcm⟩ := h.shape
 injection e with e1 _ e3
 subst e1 e3
 have HV := hid h
 rw [hn1] at HV hlc ⊢
 unfold maxLen at hcm
 clear h hn1
 go_enter Tryz.func6, Tryz.ntmps6
 go_wp2_with fail
 go_loop [3, 4] (fun y i => ∃ (j : Nat) (z : Int), j ≤ n1 ∧ i = .int .i64 j ∧ y = .int .i64 z) (fun _ i => n1 - (intOf i).toNat)
 case atStart => exact ⟨0, _, by omega, rfl, rfl⟩
 case round =>
  obtain ⟨j, z, hj, rfl, rfl⟩ := hrel
  by_cases hlt : j < n1
  ·have hX : (j : Int) < n1 := by omega
   obtain ⟨b2, o2, c2, rfl, _, _, hr2, hc2⟩ := HV.out.at_ ERs.ok (k := j) (by rw [HN1.out]; exact hlt)
   obtain ⟨At, ct, rfl, hct, hts⟩ := ERs_cells hr2
   have t3 := hc2 3 _ rfl
   have e4 : ERs.size = 4 := rfl
   simp only [e4] at t3
   generalize (rs[j]'(by rw [HN1.out]; exact hlt)).v = ts at *
   obtain ⟨At', ct', ee, _, hctm⟩ := hts.shape
   injection ee with ee1 _ ee3
   subst ee1 ee3
   obtain ⟨n2, hn2⟩ : ∃ n2, ts.length = n2 := ⟨_, rfl⟩
   have HN2 := hid hn2
   have HT := hid hts
   rw [hn2] at t3 HT hct
   unfold maxLen at hctm
   clear hc2 e4 hr2 hts hn2
   go_wp2_with fail
   go_loop [3, 5] (fun y i => ∃ (k : Nat) (z : Int), k ≤ n2 ∧ i = .int .i64 k ∧ y = .int .i64 z) (fun _ i => n2 - (intOf i).toNat)
   case atStart => exact ⟨0, _, by omega, rfl, rfl⟩
   case round =>
    obtain ⟨k, z2, hk, rfl, rfl⟩ := hrel
    by_cases hlt2 : k < n2
    ·have hX2 : (k : Int) < n2 := by omega
     obtain ⟨b3, o3, c3, rfl, _, _, hr3, hc3⟩ := HT.out.at_ ETok.ok (k := k) (by rw [HN2.out]; exact hlt2)
     have hr3 : c3 = [U8 _, .int .i64 _, .string _, U8 _] := hr3
     subst hr3
     have t2 := hc3 2 _ rfl
     have e4 : ETok.size = 4 := rfl
     simp only [e4] at t2
     clear hc3 e4
     go_wp2
     exact ⟨⟨k + 1, _, by omega, by go_num, rfl⟩, by simp [intOf]; omega⟩
    ·obtain rfl : k = n2 := by omega
     have hX2 : ¬ (k : Int) < k := by omega
     go_wp2
     exact ⟨⟨j + 1, _, by omega, by go_num, rfl⟩, by simp [intOf]; omega⟩
  ·obtain rfl : j = n1 := by omega
   have hX : ¬ (j : Int) < j := by omega
   by_cases h30 : (30 : Int) < j
   ·go_wp2
    go_ret
    exact ⟨⟨_, rfl, .inl rfl⟩, rfl⟩
   ·go_wp2
    go_ret
    exact ⟨⟨_, rfl, .inr (by have := HN1.out; omega)⟩, rfl⟩
theorem ShVal.parts {w : World} {S : BS} {u : Value} {s : Sh} (h : ShVal w S u s) : ∃ A4 c4 A5 c5, u = .agg #[.int .i64 s.n, .bool s.there, U8 s.v.kind, .int .i64 s.v.n, .string s.v.s, .slice A4 s.v.l.length c4, .slice A5 s.v.o.length c5] ∧ VAt w (fun q => S q ∧ q < w.heap.size) (.agg #[U8 s.v.kind, .int .i64 s.v.n, .string s.v.s, .slice A4 s.v.l.length c4, .slice A5 s.v.o.length c5]) s.v := by
 obtain ⟨a0, a1, a2, a3, a4, rfl, hv⟩ := h
 have hv := hv.more (S' := fun q => S q ∧ q < w.heap.size) fun q h1 h2 => ⟨h2, h1⟩
 obtain ⟨lv, ov, e1, hl, ho⟩ := hv
 simp only [Value.agg.injEq, Array.mk.injEq, List.cons.injEq, and_true] at e1
 obtain ⟨rfl, rfl, rfl, rfl, rfl⟩ := e1
 obtain ⟨A4, c4, rfl, _⟩ := hl.shape
 obtain ⟨A5, c5, rfl, _⟩ := ho.shape
 exact ⟨A4, c4, A5, c5, rfl, _, _, rfl, hl, ho⟩
abbrev TSH2 : Nat := 53
def RShBIs (w : World) (s : Sh) (e : Ending) (w' : World) : Prop := ∃ u, e = .returned (.tuple #[u, .int .i64 (shC s)]) ∧ (shC s = 0 → BytesS w' (fun q => w.heap.size ≤ q) u (shB s)) ∧ Ext w w'
set_option maxRecDepth 100000 in
theorem rshb_ok (w0 : World) (hva : ValAny w0) (s : Sh) (h1 : 0 ≤ s.n) (h2 : s.n ≤ 5000) (hw : Wide s.v) (w : World) (h0 : Ext w0 w) (S : BS) (u : Value) (hu : ShVal w S u s) :
  Calls Tryz.prog 38 #[u] w (RShBIs w s) := by
 obtain ⟨sn, th, sv⟩ := s
 simp only at h1 h2 hw
 obtain ⟨n, rfl⟩ : ∃ n : Nat, sn = (n : Int) := ⟨sn.toNat, by omega⟩
 obtain ⟨a0, a1, a2, a3, a4, rfl, hv⟩ := hu
 simp only at hv ⊢
 obtain ⟨lv, ov, e1, hl, ho⟩ := hv
 obtain ⟨A1, c1, rfl, _⟩ := hl.shape
 obtain ⟨A2, c2, rfl, _⟩ := ho.shape
 simp only [Value.agg.injEq, Array.mk.injEq, List.cons.injEq, and_true] at e1
 obtain ⟨rfl, rfl, rfl, rfl, rfl⟩ := e1
 have HVA := hid hva
 have HWI := hid hw
 have H0 := hid h0
 have HV := hid (show VAt w S (.agg #[U8 sv.kind, .int .i64 sv.n, .string sv.s, .slice A1 sv.l.length c1, .slice A2 sv.o.length c2]) sv from ⟨_, _, rfl, hl, ho⟩)
 clear hva hw h0 hl ho
 go_enter Tryz.func38, Tryz.ntmps38
 go_wp2_with fail
 obtain ⟨W0, hW0⟩ : ∃ W0, w.alloc (.cells #[.int .i64 (n : Int), .bool th, U8 sv.kind, .int .i64 sv.n, .string sv.s, .slice A1 sv.l.length c1, .slice A2 sv.o.length c2] TSH2) = W0 := ⟨_, rfl⟩
 have hE0 : Ext w W0 := by rw [← hW0]; exact (Keep.refl _ _).alloc _
 have hb0 : Blk W0 w.heap.size TSH2 #[.int .i64 (n : Int), .bool th, U8 sv.kind, .int .i64 sv.n, .string sv.s, .slice A1 sv.l.length c1, .slice A2 sv.o.length c2] := by rw [← hW0]; exact Blk.new _ _ _
 have HE0 := hid hE0
 have HB0 := hid hb0
 change Code.wp _ _ _ _ (w.alloc (.cells #[.int .i64 (n : Int), .bool th, U8 sv.kind, .int .i64 sv.n, .string sv.s, .slice A1 sv.l.length c1, .slice A2 sv.o.length c2] TSH2))
 rw [hW0]
 clear hW0 hE0 hb0
 have HU := hid (show u64 (n : Int) = n from by unfold u64; omega)
 go_loopw [4, 5] (fun o i wr => ∃ (j : Nat) (ys : List UInt8), j ≤ 8 ∧ i = .int .i64 ((j : Int) - 1) ∧ ys.length + j = 8 ∧ ys ++ beN n j = beN n 8 ∧ Own EU8 wr W0.heap.size TU8 (fun _ => False) o ys ∧ Ext W0 wr) (fun _ i _ => (intOf i + 1).toNat)
 case atStart => exact ⟨8, [], by omega, rfl, rfl, rfl, Own.nil _ _ _ _, Keep.refl _ _⟩
 case round =>
  obtain ⟨j, ys, hj, rfl, hyl, hys, hown, hE⟩ := hrel
  have HYL := hid hyl
  have HYS := hid hys
  have HO := hid hown
  have HE := hid hE
  obtain ⟨A, c, rfl, hlc, hcm⟩ := hown.shape
  have hbr := HB0.out.keep hE id
  obtain ⟨x0, x1, x2, x3, x4, x5, x6⟩ : wr.cell? ⟨w.heap.size, 0, none⟩ = some (.int .i64 (n : Int)) ∧ wr.cell? ⟨w.heap.size, 1, none⟩ = some (.bool th) ∧ wr.cell? ⟨w.heap.size, 2, none⟩ = some (U8 sv.kind) ∧ wr.cell? ⟨w.heap.size, 3, none⟩ = some (.int .i64 sv.n) ∧ wr.cell? ⟨w.heap.size, 4, none⟩ = some (.string sv.s) ∧ wr.cell? ⟨w.heap.size, 5, none⟩ = some (.slice A1 sv.l.length c1) ∧ wr.cell? ⟨w.heap.size, 6, none⟩ = some (.slice A2 sv.o.length c2) := ⟨hbr.cell 0, hbr.cell 1, hbr.cell 2, hbr.cell 3, hbr.cell 4, hbr.cell 5, hbr.cell 6⟩
  rcases j with _ | j
  ·have e0 : ys = beN n 8 := by have := HYS.out; rw [beN, List.append_nil] at this; exact this
   subst e0
   have hyl8 : (beN n 8).length = 8 := beN_len _ _
   have HSZ := hid (show w.heap.size < W0.heap.size from HB0.out.lt)
   have HB8 := hid (HB0.out)
   rw [hyl8] at HO
   clear hyl hys hown hE hlc hcm hbr
   have HOG := hid (fun g hg => HO.out.lt (g := g) hg)
   cases th with
   | false =>
    have hnew := bytes_new (w := wr) (t := TU8) (f := (0, 0)) [0] (by simp [maxLen])
    rw [show [(0 : UInt8)].map U8 = [Value.int .u8 0] from rfl] at hnew
    have hE1 : Ext wr (wr.alloc (.cells [Value.int .u8 0].toArray TU8)) := (Keep.refl _ _).alloc _
    have HV2 := hid hnew
    have HO2 := hid (HO.out.ext EU8.ok hE1)
    have HE2 := hid (HE.out.ext hE1)
    clear hnew hE1
    go_wp2_with (at_builtin; refine wpList_own_append (E := EU8) _ rfl (.tmp 26) (.tmp 27) EU8.ok ty_u8 rfl rfl rfl HO2.out HV2.out ?c1 ?c2 ?c4 ?c3 ?_)
    case c1 => intro g hg; exact ⟨id, fun h => by have := (HOG.out g hg).2; omega⟩
    case c2 => rw [hyl8]; decide
    case c4 => rw [hyl8]; decide
    case c3 => have := HE2.out.size; omega
    intro v' w' h3 h6 h7
    obtain ⟨A', c', rfl, h4, h5⟩ := h3.shape
    have HR := hid (show RShBIs w ⟨(n : Int), false, sv⟩ (.returned (.tuple #[.slice A' (beN n 8 ++ [0]).length c', .int .i64 0])) w' from
     ⟨_, rfl, fun _ => by
      have h9 : shB ⟨(n : Int), false, sv⟩ = beN n 8 ++ [0] := by unfold shB; rw [HU.out]; rfl
      rw [h9]
      exact ((show Own EU8 w' W0.heap.size TU8 (fun _ => False) _ _ from own_u8 h3).sl EU8.ok).more EU8.ok fun q _ h => h.elim (fun h => h.elim) fun h => by have := (h3.lt h).1; have := HSZ.out; omega,
      HE0.out.trans (HE2.out.trans h6 (fun k hk e => by have := (HOG.out k e).1; omega)) (fun k hk e => e)⟩)
    rw [show (beN n 8 ++ [(0 : UInt8)]).length = 9 by simp [beN_len]] at HR ⊢
    clear h3 h6 h7 x0 x1 x2 x3 x4 x5 x6
    go_wp2
    go_ret2
    exact HR.out
   | true =>
    go_wp2_with fail
    refine (rval10_ok w0 HVA.out sv HWI.out _ S wr (H0.out.ext (HE0.out.ext HE.out)) (HV.out.ext (HE0.out.ext HE.out))).mono ?_
    rintro e w1 ⟨u1, rfl, hu1, hE1⟩
    have HO1 := hid (HO.out.ext EU8.ok hE1)
    have HU1 := hid (hu1.sl EU8.ok)
    have HE1 := hid (HE.out.ext hE1)
    have HES := hid hE1.size
    have HUL := hid (fun g hg => hu1.lt (g := g) hg)
    obtain ⟨A3, c3, rfl, _, _⟩ := hu1.shape
    clear hu1 hE1 x0 x1 x2 x3 x4 x5 x6
    by_cases hc : valC sv = 0
    ·rw [hc]
     have HC := hid hc
     have hone := bytes_new (w := w1) (t := TU8) (f := (0, 0)) [1] (by simp [maxLen])
     rw [show [(1 : UInt8)].map U8 = [Value.int .u8 1] from rfl] at hone
     have hE3 : Ext w1 (w1.alloc (.cells [Value.int .u8 1].toArray TU8)) := (Keep.refl _ _).alloc _
     have HV2 := hid hone
     have HO2 := hid (HO1.out.ext EU8.ok hE3)
     have HE2 := hid (HE1.out.ext hE3)
     have HU2 := hid (HU1.out.ext EU8.ok hE3)
     clear hc hone hE3
     go_wp2_with (at_builtin; refine wpList_own_append (E := EU8) _ rfl (.tmp 38) (.tmp 39) EU8.ok ty_u8 rfl rfl rfl HO2.out HV2.out ?c1 ?c2 ?c4 ?c3 ?_)
     case c1 => intro g hg; exact ⟨id, fun h => by have := (HOG.out g hg).2; have := HES.out; omega⟩
     case c2 => rw [hyl8]; decide
     case c4 => rw [hyl8]; decide
     case c3 => have := HE2.out.size; omega
     intro v' w' h3 h6 h7
     obtain ⟨A', c', rfl, h4, h5⟩ := h3.shape
     have hvl := valB_len sv
     have HO3 := hid (show Own EU8 w' W0.heap.size TU8 (fun _ => False) _ _ from own_u8 h3)
     have HU3 := hid (Sl.keep EU8.ok HU2.out h6 fun q hq e => hq.elim id fun h => by have := (HUL.out q h).1; have := (HOG.out q e).2; omega)
     have HK3 := hid (HE2.out.trans h6 (fun k hk e => by have := (HOG.out k e).1; omega))
     have HOG3 := hid (fun (g : Nat) (hg : (Value.slice A' (beN n 8 ++ [1]).length c').ownBlock = some g) => (h7.elim (fun e => .inl (HOG.out g (e.symm.trans hg))) fun e => .inr (Option.some.inj (e.symm.trans hg)).symm : (W0.heap.size ≤ g ∧ g < wr.heap.size) ∨ g = w1.heap.size + 1))
     have HSW := hid h6.size
     have hl9 : (beN n 8 ++ [(1 : UInt8)]).length = 9 := by simp [beN_len]
     rw [hl9] at HO3 HOG3 ⊢
     clear h3 h6 h7 hl9
     go_wp2_with (at_builtin; refine wpList_own_append (E := EU8) _ rfl (.tmp 41) (.tmp 42) EU8.ok ty_u8 rfl rfl rfl HO3.out HU3.out ?d1 ?d2 ?d4 ?d3 ?_)
     case d1 =>
      intro g hg
      refine ⟨id, fun h => h.elim id fun h => ?_⟩
      have h1 := HUL.out g h
      have := HES.out
      rcases HOG3.out g hg with h2 | h2 <;> omega
     case d2 => rw [List.length_append, hyl8]; simp only [List.length_singleton]; omega
     case d4 => rw [List.length_append, hyl8]; simp only [List.length_singleton, maxLen]; omega
     case d3 => have := HK3.out.size; omega
     intro v2 w2 g3 g6 g7
     obtain ⟨A4, c4, rfl, _⟩ := g3.shape
     have hzz : W0.heap.size ≤ w1.heap.size := HE1.out.size
     have HR := hid (show RShBIs w ⟨(n : Int), true, sv⟩ (.returned (.tuple #[.slice A4 ((beN n 8 ++ [1]) ++ valB sv).length c4, .int .i64 0])) w2 from
      ⟨_, by show _ = Ending.returned (.tuple #[_, .int .i64 (valC sv)]); rw [HC.out], fun _ => by
       have h9 : shB ⟨(n : Int), true, sv⟩ = (beN n 8 ++ [1]) ++ valB sv := by unfold shB; rw [HU.out]; simp
       rw [h9]
       exact ((show Own EU8 w2 W0.heap.size TU8 (fun _ => False) _ _ from own_u8 g3).sl EU8.ok).more EU8.ok fun q _ h => h.elim (fun h => h.elim) fun h => by have := (g3.lt h).1; have := HSZ.out; omega,
       HE0.out.trans (HK3.out.trans g6 (fun k hk e => by rcases HOG3.out k e with h | h <;> omega)) (fun k hk e => e)⟩)
     clear g3 g6 g7
     go_wp2
     go_ret2
     exact HR.out
    ·go_wp2
     go_ret2
     exact ⟨_, rfl, fun h => absurd h hc, HE0.out.ext HE1.out⟩
  ·have hnew := bytes_new (w := wr) (t := TU8) (f := (0, 0)) [UInt8.ofNat (n / 256 ^ j)] (by simp [maxLen])
   have hu : [UInt8.ofNat (n / 256 ^ j)].map U8 = [Value.int .u8 ((n : Int) / 2 ^ (8 * j) % 256)] := by
    simp only [List.map_cons, List.map_nil, U8, UInt8.toNat_ofNat']
    rw [show (256 : Nat) ^ j = 2 ^ (8 * j) by rw [Nat.pow_mul]]
    simp
   rw [hu] at hnew
   have hE1 : Ext wr (wr.alloc (.cells [Value.int .u8 ((n : Int) / 2 ^ (8 * j) % 256)].toArray TU8)) := (Keep.refl _ _).alloc _
   have HV2 := hid hnew
   have HO2 := hid (hown.ext EU8.ok hE1)
   have HE2 := hid (hE.ext hE1)
   have HOG := hid (fun g hg => hown.lt (g := g) hg)
   have HNX := hid (show (ys ++ [UInt8.ofNat (n / 256 ^ j)]) ++ beN n j = beN n 8 from by rw [List.append_assoc]; exact HYS.out)
   have e1 : ((j + 1 : Nat) : Int) - 1 = (j : Int) := by omega
   rw [e1]
   clear hnew hu hE1 hown hE hyl hys hlc hcm hbr e1
   generalize UInt8.ofNat (n / 256 ^ j) = byte at *
   go_wp2_with (at_builtin; refine wpList_own_append (E := EU8) _ rfl (.tmp 12) (.tmp 21) EU8.ok ty_u8 rfl rfl rfl HO2.out HV2.out ?c1 ?c2 ?c4 ?c3 ?_)
   case c1 => intro g hg; exact ⟨id, fun h => by have := (HOG.out g hg).2; omega⟩
   case c2 => have := HYL.out; simp; omega
   case c4 => have := HYL.out; simp [maxLen]; omega
   case c3 => have := HE2.out.size; omega
   intro v' w' h3 h6 h7
   obtain ⟨A', c', rfl, h4, h5⟩ := h3.shape
   have HO3 := hid (show Own EU8 w' W0.heap.size TU8 (fun _ => False) _ _ from own_u8 h3)
   have HE3 := hid (HE2.out.trans h6 (fun k hk e => by have := (HOG.out k e).1; omega))
   clear h3 h6 h7 x0 x1 x2 x3 x4 x5 x6
   go_wp2
   exact ⟨⟨j, ys ++ [byte], by omega, rfl, by have := HYL.out; simp; omega, HNX.out, HO3.out, HE3.out⟩, by simp [intOf]⟩
theorem ref_wrap_long (v : Value) (l : List UInt8) (S : BS) (w : World) (hv : BytesS w S v l) (hl : 60000 < l.length) :
  Calls Tryz.prog 39 #[v] w fun e w' => e = .returned (.tuple #[.slice none 0 0, .int .i64 3]) ∧ w = w' := by
 obtain ⟨A, c, rfl, h1, h2⟩ := hv.shape
 unfold maxLen at h2
 have hli : 60000 < (l.length : Int) := by omega
 go_enter Tryz.func39, Tryz.ntmps39
 go_wp2
 go_ret2
 exact ⟨rfl, rfl⟩
theorem ref_wrap_ok (v : Value) (l : List UInt8) (S : BS) (w : World) (hv : BytesS w S v l) (hl : l.length ≤ 60000) :
  Calls Tryz.prog 39 #[v] w fun e w' => ∃ v', e = .returned (.tuple #[v', .int .i64 0]) ∧ Own EU8 w' w.heap.size 5 (fun _ => False) v' (frm l) ∧ Ext w w' := by
 obtain ⟨A, c, rfl, h1, h2⟩ := hv.shape
 unfold maxLen at h2
 have hli : (l.length : Int) ≤ 60000 := by omega
 go_enter Tryz.func39, Tryz.ntmps39
 go_wp2_with fail
 refine (ref_four l.length (by omega) _).mono ?_
 rintro e w1 ⟨v1, rfl, hv1, hE1⟩
 obtain ⟨A1, c1, rfl, _⟩ := hv1.shape
 rw [fourL_length] at hv1 ⊢
 have HV1 := hid hv1
 have HE1 := hid hE1
 have HV := hid (bytes_any hv)
 clear hv1 hE1 hv
 go_wp2_with (at_builtin; refine wpList_append_bytes rfl (.tmp 13) (.tmp 14) ty_u8 rfl rfl rfl (Own.nil _ w.heap.size _ (fun _ => False)) HV1.out ?c1 ?c2 ?c3 ?_)
 case c1 => intro g hg; cases hg
 case c2 => simp [fourL]
 case c3 => exact HE1.out.size
 intro A2 c2 w2 hown2 hc2 hc2' hk2
 have HE2 := hid (show Ext w w2 from HE1.out.trans hk2 fun k _ e => by cases e)
 have HO2 := hid hown2
 have HV2 := hid ((bytes_any HV1.out).ext EU8.ok (hk2.mono fun k _ e => by cases e))
 clear hown2 hk2 HV1 HE1
 rw [fourL_length] at HO2 hc2 ⊢
 go_wp2_with fail
 refine (ref_sum_ext _ _ _ _ (bytess_two (t := 46) (f := (0, 0)) HV2.out (HV.out.ext EU8.ok HE2.out))).mono ?_
 rintro e w3 ⟨rfl, hE3⟩
 have hA3 : Ext w2 w3 := ((Keep.refl _ _).alloc _).ext hE3
 rw [show [fourL l.length, l].flatten = fourL l.length ++ l from by simp]
 have hlt := (sumOf (fourL l.length ++ l)).isLt
 unfold U32
 generalize hs : (sumOf (fourL l.length ++ l)).toNat = s at *
 have HS := hid hs
 have HE3 := hid (HE2.out.ext hA3)
 have HO3 := hid (HO2.out.ext EU8.ok hA3)
 clear hE3 hs hA3 HE2 HO2 HV2
 go_wp2_with fail
 refine (ref_four s hlt _).mono ?_
 rintro e w4 ⟨v4, rfl, hv4, hE4⟩
 obtain ⟨A4, c4, rfl, _⟩ := hv4.shape
 rw [fourL_length] at hv4 ⊢
 have HV4 := hid (hv4.more (S' := fun k => w3.heap.size ≤ k) EU8.ok fun k _ h => h)
 have HE4 := hid (HE3.out.ext hE4)
 have HO4 := hid (HO3.out.ext EU8.ok hE4)
 have HL4 := hid (fun g (e : (Value.slice A2 4 c2).ownBlock = some g) => (HO3.out.lt e).2)
 clear hv4 hE4 HE3 HO3
 go_wp2_with (at_builtin; refine wpList_append_bytes rfl (.tmp 16) (.tmp 21) ty_u8 rfl rfl rfl HO4.out HV4.out ?d1 ?d2 ?d3 ?_)
 case d1 => intro g hg h; have := HL4.out g hg; omega
 case d2 => simp [fourL]
 case d3 => exact HE4.out.size
 intro A5 c5 w5 hown5 hc5 hc5' hk5
 have HE5 := hid (HE4.out.trans hk5 fun k hk e => by have := (HO4.out.lt e).1; omega)
 have HO5 := hid hown5
 have HV5 := hid ((HV.out.more (S' := fun k => k < w.heap.size) EU8.ok fun k h _ => h).ext EU8.ok HE5.out)
 have HL5 := hid (fun g (e : (Value.slice A5 8 c5).ownBlock = some g) => (hown5.lt e).1)
 clear hown5 hk5 HO4 HE4 HV4 HL4
 rw [show (fourL l.length).length + (fourL s).length = 8 from rfl] at HO5 hc5 ⊢
 go_wp2_with (at_builtin; refine wpList_append_bytes rfl (.tmp 23) (.tmp 24) ty_u8 rfl rfl rfl HO5.out HV5.out ?e1 ?e2 ?e3 ?_)
 case e1 => intro g hg h; have := HL5.out g hg; omega
 case e2 => simp [fourL]; omega
 case e3 => exact HE5.out.size
 intro A6 c6 w6 hown6 hc6 hc6' hk6
 have HE6 := hid (HE5.out.trans hk6 fun k hk e => by have := HL5.out k e; omega)
 rw [show fourL l.length ++ (fourL s ++ l) = frm l from by simp [frm, HS.out]] at hown6
 have HO6 := hid hown6
 clear hown6 hk6 HO5 HE5 HV5 HL5
 go_wp2
 go_ret2
 exact ⟨_, rfl, HO6.out, HE6.out⟩
def RefOpenIs (l : List UInt8) (w : World) (e : Ending) (w' : World) : Prop := match openL l with
 | none => e = .returned (.tuple #[.slice none 0 0, .int .i64 0, .int .i64 120]) ∧ Ext w w'
 | some x => ∃ v', e = .returned (.tuple #[v', .int .i64 ((8 + x.length : Nat) : Int), .int .i64 0]) ∧ BytesS w' (fun k => w.heap.size ≤ k) v' x ∧ Ext w w'
theorem RefOpenIs.no {l : List UInt8} {w w' : World} (h : openL l = none) (hE : Ext w w') : RefOpenIs l w (.returned (.tuple #[.slice none 0 0, .int .i64 0, .int .i64 120])) w' := by
 unfold RefOpenIs; rw [h]; exact ⟨rfl, hE⟩
theorem RefOpenIs.yes {l x : List UInt8} {w w' : World} {v' : Value} (h : openL l = some x) (hv : BytesS w' (fun k => w.heap.size ≤ k) v' x) (hE : Ext w w') : RefOpenIs l w (.returned (.tuple #[v', .int .i64 ((8 + x.length : Nat) : Int), .int .i64 0])) w' := by
 unfold RefOpenIs; rw [h]; exact ⟨v', rfl, hv, hE⟩
theorem ref_open (v : Value) (l : List UInt8) (S : BS) (w : World) (hv : BytesS w S v l) :
  Calls Tryz.prog 77 #[v] w (RefOpenIs l w) := by
 obtain ⟨A, c, rfl, h1, h2⟩ := hv.shape
 unfold maxLen at h2
 by_cases hl : l.length < 8
 ·have ho : openL l = none := by unfold openL; rw [if_pos hl]
  go_enter Tryz.func77, Tryz.ntmps77
  go_wp2
  go_ret3
  exact .no ho (Keep.refl _ _)
 have hl' : ¬ (l.length : Int) < 8 := by omega
 have HV := hid hv
 clear hv
 obtain ⟨n, hnn⟩ : ∃ n, numL l = n := ⟨_, rfl⟩
 have HN := hid hnn
 clear hnn
 by_cases hb1 : 60000 < n
 ·have ho : openL l = none := by unfold openL; rw [if_neg hl, HN.out, if_pos (by omega)]
  go_enter Tryz.func77, Tryz.ntmps77
  go_wp2_with fail
  refine (ref_number _ _ _ _ HV.out (by omega)).mono ?_
  rintro e w1 ⟨rfl, hE⟩
  rw [HN.out]
  have HE := hid hE
  clear hE
  go_wp2
  go_ret3
  exact .no ho HE.out
 by_cases hb2 : l.length < 8 + n
 ·have ho : openL l = none := by unfold openL; rw [if_neg hl, HN.out, if_pos (by omega)]
  go_enter Tryz.func77, Tryz.ntmps77
  go_wp2_with fail
  refine (ref_number _ _ _ _ HV.out (by omega)).mono ?_
  rintro e w1 ⟨rfl, hE⟩
  rw [HN.out]
  have HE := hid hE
  clear hE
  go_wp2_with fail
  refine (ref_number _ _ _ _ (HV.out.ext EU8.ok HE.out) (by omega)).mono ?_
  rintro e w2 ⟨rfl, hE⟩
  rw [HN.out]
  have HE2 := hid (HE.out.ext hE)
  clear hE HE
  go_wp2
  go_ret3
  exact .no ho HE2.out
 obtain ⟨x, hx⟩ : ∃ x, (l.drop 8).take n = x := ⟨_, rfl⟩
 have hxl : x.length = n := by rw [← hx]; simp; omega
 have hn6 : n ≤ 60000 := by omega
 have hn7 : 8 + n ≤ l.length := by omega
 have hin : (n : Int) ≤ 60000 := by omega
 have HX := hid hx
 have HXL := hid hxl
 obtain ⟨A8, hs8, hv8⟩ := cut_fact (P := Tryz.prog) EU8.ok ty_u8 HV.out (lo := 8) (hi := 8 + n) (a := 8) (b := 8 + (n : Int)) rfl (by omega) (by omega) hn7
 obtain ⟨A4, hs4, hv4⟩ := tail_fact (P := Tryz.prog) EU8.ok ty_u8 HV.out (lo := 4) (a := 4) rfl (by omega)
 obtain ⟨hsf, hvf⟩ := front_fact (P := Tryz.prog) EU8.ok ty_u8 HV.out (hi := 4) (b := 4) rfl (by omega)
 rw [show ((l.take (8 + n)).drop 8) = x from by rw [← hx, List.drop_take, Nat.add_sub_cancel_left]] at hv8
 rw [Nat.add_sub_cancel_left] at hs8 hv8
 obtain ⟨m4, hm4⟩ : ∃ m4, numL (l.drop 4) = m4 := ⟨_, rfl⟩
 obtain ⟨s, hs⟩ : ∃ s, (sumOf (l.take 4 ++ x)).toNat = s := ⟨_, rfl⟩
 have ho : openL l = if m4 ≠ s then none else some x := by
  unfold openL
  rw [if_neg hl, HN.out, HX.out, hm4, hs, if_neg (by omega)]
 have HM4 := hid hm4
 have HSS := hid hs
 have HO := hid ho
 have HV8 := hid (hv8.more (S' := fun k => k < w.heap.size) EU8.ok fun k h _ => h)
 have HV4 := hid hv4
 have HVF := hid hvf
 clear hx hxl hv4 hv8 hvf hm4 hs ho hb1
 go_enter Tryz.func77, Tryz.ntmps77
 go_wp2_with fail
 refine (ref_number _ _ _ _ HV.out (by omega)).mono ?_
 rintro e w1 ⟨rfl, hE⟩
 rw [HN.out]
 have HE := hid hE
 clear hE
 go_wp2_with fail
 refine (ref_number _ _ _ _ (HV.out.ext EU8.ok HE.out) (by omega)).mono ?_
 rintro e w2 ⟨rfl, hE⟩
 rw [HN.out]
 have HE2 := hid (HE.out.ext hE)
 clear hE HE
 go_wp2_with fail
 refine (ref_number _ _ _ _ (HV.out.ext EU8.ok HE2.out) (by omega)).mono ?_
 rintro e w3 ⟨rfl, hE⟩
 rw [HN.out]
 have HE3 := hid (HE2.out.ext hE)
 clear hE HE2
 go_wp2_with fail
 have hwr : IntKind.i64.wrap (8 + (n : Int)) = 8 + (n : Int) := IntWalk.i64_in _ (by omega)
 refine wp_region_grow (specOf [(2, fun v w' => v = .int .u32 (m4 : Int)), (9, fun v w' => SlShape EBytes w' (fun _ => True) v 2 [l.take 4, x]), (10, fun v w' => v = .int .u32 (s : Int))])
  (fun w' => Ext w w') ?_ (stableC_ext _) (by kernel_rfl) (by kernel_rfl) (Keep.drew HE3.out) ?_
 ·exact stable_cons (fun v w w' h he => h) (stable_cons (fun v w w' h he => h.ext EBytes.ok he) (stable_cons (fun v w w' h he => h) stable_nil))
 iterate 2
  (try simp only [Act.put, sqa, sqb, sqc])
  refine grow_run rfl rfl rfl ?_
  apply Exists.intro
  refine ⟨fun w' hC hK => ?_, ?_⟩
  ·go_simp
   rfl
 (try simp only [Act.put, sqa, sqb, sqc])
 refine grow_eff rfl rfl rfl (fun w' hC hK => ?_) (fun v2 hv2 => ?_)
 ·unfold growAt
  go_simp
  refine grow_call ((ref_number _ _ _ _ (HV4.out.ext EU8.ok hC) (by simp; omega)).mono ?_)
  rintro e w'' ⟨rfl, hE⟩
  exact ⟨_, rfl, hE, by rw [HM4.out]⟩
 obtain rfl : v2 = .int .u32 (m4 : Int) := hv2.head.elim fun _ h => h.2
 clear hv2
 iterate 6
  (try simp only [Act.put, sqa, sqb, sqc])
  refine grow_run rfl rfl rfl ?_
  apply Exists.intro
  refine ⟨fun w' hC hK => ?_, ?_⟩
  ·go_simp
   rfl
 (try simp only [Act.put, sqa, sqb, sqc])
 refine grow_eff rfl rfl rfl (fun w' hC hK => ?_) (fun v6 hv6 => ?_)
 ·unfold growAt
  go_simp
  exact ⟨(Keep.refl _ _).alloc _, _, _, rfl, (sl_two (bytes_any (HVF.out.ext EU8.ok hC)) (bytes_any (HV8.out.ext EU8.ok hC))).more EBytes.ok fun _ _ _ => trivial⟩
 obtain ⟨_, _, A6, c6, rfl, _⟩ := hv6.head
 clear hv6
 (try simp only [Act.put, sqa, sqb, sqc])
 refine grow_eff rfl rfl rfl (fun w' hC hK => ?_) (fun v7 hv7 => ?_)
 ·unfold growAt
  go_simp
  obtain ⟨_, _, e7, f7⟩ : SlShape EBytes w' (fun _ => True) (.slice A6 2 c6) 2 [l.take 4, x] := hK.get (i := 9) List.mem_cons_self (by kernel_rfl)
  refine grow_call ((ref_sum_ext _ _ _ _ (bytess_of_S f7)).mono ?_)
  rintro e w'' ⟨rfl, hE⟩
  exact ⟨_, rfl, hE, by rw [← HSS.out]; simp [U32]⟩
 obtain rfl : v7 = .int .u32 (s : Int) := hv7.head.elim fun _ h => h.2
 clear hv7 hwr
 by_cases hq : m4 = s
 ·subst hq
  iterate 1
   (try simp only [Act.put, sqa, sqb, sqc])
   refine grow_run rfl rfl rfl ?_
   apply Exists.intro
   refine ⟨fun w' hC hK => ?_, ?_⟩
   ·go_simp
    rfl
  refine grow_nil fun w6 hC _ => ?_
  have HC := hid hC
  clear hC
  have HV9 := hid (HV8.out.ext EU8.ok HC.out)
  go_wp2_with (at_builtin; refine wpList_append_bytes rfl (.tmp 39) (.tmp 43) ty_u8 rfl rfl rfl (Own.nil _ w.heap.size _ (fun _ => False)) HV9.out ?e1 ?e2 ?e3 ?_)
  case e1 => intro g hg; cases hg
  case e2 => have := HXL.out; simp; omega
  case e3 => exact HC.out.size
  intro A7 c7 w7 hown7 hc7 hc7' hk7
  have HE := hid (show Ext w w7 from HC.out.trans hk7 fun k _ e => by cases e)
  have H7 := hid (own_new hown7)
  clear hown7 hk7
  go_wp2
  go_ret3
  have := RefOpenIs.yes (w := w) (by rw [HO.out, if_neg (by simp)]) H7.out HE.out
  rw [show ((8 + x.length : Nat) : Int) = 8 + (n : Int) from by have := HXL.out; omega] at this
  simpa using this
 ·skip
  iterate 1
   (try simp only [Act.put, sqa, sqb, sqc])
   refine grow_run rfl rfl rfl ?_
   apply Exists.intro
   refine ⟨fun w' hC hK => ?_, ?_⟩
   ·go_simp
    rfl
  refine grow_nil fun w6 hC _ => ?_
  have HC := hid hC
  clear hC
  go_wp2
  go_ret3
  exact .no (by rw [HO.out, if_pos hq]) HC.out
end Go.Proofs.YtihaliffcobacaaGreatDoor
