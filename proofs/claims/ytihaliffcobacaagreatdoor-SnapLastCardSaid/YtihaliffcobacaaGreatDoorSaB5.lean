/- PencA, MixVal, ValT, PathA, PathS, RefSame, EncB: laid together. -/
import Derived.Test.YtihaliffcobacaaGreatDoorSaB4
import Derived.Test.YtihaliffcobacaaGreatDoorSaB2
import Derived.Laws.Cover1
import Derived.RegionTactic
import Derived.ChangeAlike
set_option linter.unusedSimpArgs false
set_option linter.unusedVariables false
set_option maxHeartbeats 25600000
set_option maxRecDepth 20000
namespace Go.Proofs.YtihaliffcobacaaGreatDoor
open Go.RowKit
abbrev TWP : Nat := 141
theorem wrap_u64 (n : Int) : IntKind.u64.wrap n = (u64 n : Int) := by simp only [IntKind.wrap, IntKind.bits, IntKind.signed, Bool.false_and, Bool.false_eq_true, if_false]; unfold u64; omega
set_option maxRecDepth 100000 in
theorem pint_ok (W1 : World) (b : Nat) (z : Int) (n width : Nat) (hz : IntKind.u64.wrap z = (n : Int)) (hw : width ≤ 8) (w : World) (o : Option Nat) (xs : List UInt8) (h : WrAt TWP W1 w b o xs) (hl : xs.length + width ≤ 140737488355328) :
  Calls Tryz.prog 103 #[.pointer (some ⟨b, 0, none⟩), .int .i64 z, .int .i64 width] w (WrIs TWP W1 w b o (xs ++ beN n width)) := by
 have H := hid h
 have HL := hid hl
 clear h hl
 have hwX : (width : Int) ≤ 8 := by omega
 go_enter Tryz.func103, Tryz.ntmps103
 go_wp2_with fail
 go_loopw [6] (fun i wr => ∃ (j : Nat) (ys : List UInt8) (o1 : Option Nat), j ≤ width ∧ i = .int .i64 ((j : Int) - 1) ∧ ys.length + j = width ∧ ys ++ beN n j = beN n width ∧ WrAt TWP W1 wr b o1 (xs ++ ys) ∧ WTo b o w o1 wr) (fun i _ => (intOf i + 1).toNat)
 case atStart => exact ⟨width, [], o, Nat.le_refl _, rfl, by simp, rfl, by rw [List.append_nil]; exact H.out, WTo.refl _ _ _⟩
 case round =>
  obtain ⟨j, ys, o1, hj, rfl, hyl, hys, hwr, hto⟩ := hrel
  have HTO := hid hto
  have HYL := hid hyl
  have HYS := hid hys
  have HWR := hid hwr
  clear hyl hys hwr hto
  rcases j with _ | j
  ·have e0 : ys = beN n width := by have := HYS.out; rw [beN, List.append_nil] at this; exact this
   subst e0
   clear hj
   go_wp2
   go_end0
   exact ⟨rfl, _, HWR.out, HTO.out⟩
  ·obtain ⟨X, hb, hown, rfl, hlt, hk⟩ := HWR.out
   obtain ⟨A, c, rfl, hlc, hcm⟩ := hown.shape
   have HO := hid hown
   have HB := hid hb
   have HK := hid hk
   have HOG := hid (fun g hg => hown.lt (g := g) hg)
   have HNX := hid (show (ys ++ [UInt8.ofNat (n / 256 ^ j)]) ++ beN n j = beN n width from by rw [List.append_assoc]; exact HYS.out)
   have HZ := hid (show (xs ++ ys).length + 1 ≤ 140737488355328 from by rw [List.length_append]; have := HL.out; have := HYL.out; omega)
   have hbyte : U8 (UInt8.ofNat (n / 256 ^ j)) = Value.int .u8 ((n : Int) / 2 ^ (8 * j) % 256) := by
    simp only [U8, UInt8.toNat_ofNat']
    rw [show (256 : Nat) ^ j = 2 ^ (8 * j) by rw [Nat.pow_mul]]
    simp
   have HU := hid hbyte
   have q0 := hb.cell 0
   simp only [List.getElem?_toArray, List.getElem?_cons_zero] at q0
   clear hown hb hk hbyte
   have e1 : ((j + 1 : Nat) : Int) - 1 = (j : Int) := by omega
   have hjX : (j : Int) + 1 ≤ width := by omega
   have hsh : Op.shift .shr .u64 (n : Int) .i64 (IntKind.i64.wrap (8 * (j : Int))) = pure (.int .u64 ((n : Int) / 2 ^ (8 * j))) := by
    have h80 : (0 : Int) ≤ 8 * (j : Int) := by omega
    have h81 : 8 * (j : Int) ≤ (64 : Nat) := by omega
    have h82 : (8 * (j : Int)).toNat = 8 * j := by omega
    have h83 := shift_shr .u64 .i64 (n : Int) (8 * (j : Int)) h80 h81
    rw [h82] at h83
    rw [IntWalk.i64_in _ (by omega)]
    exact h83
   rw [e1]
   clear e1 hlc hcm
   generalize UInt8.ofNat (n / 256 ^ j) = byte at *
   generalize hxy : xs ++ ys = xy at *
   go_wp2_with fail
   refine wp_region_parts [0] [1, 2, 3, 4, 5, 6, 7, 8, 9, 10, 11] [12, 13, 14, 15] (specOf [(11, fun v w' => SlShape EU8 w' (fun k => wr.heap.size ≤ k) v 1 [byte])])
    (fun w' => Ext wr w') (stable_cons (fun v w w' h he => h.ext EU8.ok he) stable_nil) (stableC_ext _) (by kernel_rfl) (by kernel_rfl) (Keep.drew (Keep.refl _ _)) ?_
   iterate 1
    (try simp only [Act.put, sqa, sqb, sqc])
    refine pure_run rfl rfl ?_
    apply Exists.intro
    refine ⟨fun w' => ?_, ?_⟩
    ·go_simp
     rfl
   refine pure_nil ?_
   iterate 10
    (try simp only [Act.put, sqa, sqb, sqc])
    refine growP_run rfl rfl rfl ?_
    apply Exists.intro
    refine ⟨fun w' hC hK => ?_, ?_⟩
    ·have q0 := sqw hC q0
     go_simp
     rfl
   (try simp only [Act.put, sqa, sqb, sqc])
   refine growP_eff rfl rfl rfl (fun w' hC hK => ?_) (fun v11 hv11 => ?_)
   ·unfold growAt
    go_simp
    have h1 := bytes_new (w := w') (t := TU8) (f := (0, 0)) [byte] (by simp [maxLen])
    simp only [List.map_cons, List.map_nil, HU.out] at h1
    exact ⟨(Keep.refl _ _).alloc _, _, _, rfl, h1.more EU8.ok fun k _ h => by have := hC.size; omega⟩
   obtain ⟨_, _, A7, c7, rfl, _⟩ := hv11.head
   refine growP_nil fun w' hC hK => ?_
   obtain ⟨_, _, _, f7⟩ : SlShape EU8 w' (fun k => wr.heap.size ≤ k) (.slice A7 1 c7) 1 [byte] := hK (11, _) List.mem_cons_self
   have hC : Ext wr w' := hC
   have HC := hid hC
   have HF := hid f7
   clear hv11 hK f7 hC q0
   change wpList _ _ _ (_ :: _ :: _ :: _ :: []) _ _
   (try simp only [Act.put, sqa, sqb, sqc])
   refine wpList_own_append (E := EU8) _ rfl (.tmp 17) (.tmp 24) EU8.ok ty_u8 rfl rfl rfl (HO.out.ext EU8.ok HC.out) HF.out ?c1 ?c2 ?c4 ?c3 ?_
   case c1 => intro g hg; exact ⟨id, fun h => by have := (HOG.out g hg).2; omega⟩
   case c2 => have := HZ.out; simp; omega
   case c4 => have := HZ.out; simp [maxLen]; omega
   case c3 => have := HK.out.size; have := HC.out.size; omega
   intro v' w2 h3 h6 h7
   obtain ⟨A', c', rfl, h4, h5⟩ := h3.shape
   have HW := hid (WrAt.stored (HB.out.keep HC.out id) (HO.out.ext EU8.ok HC.out) hlt (HK.out.ext HC.out) (own_u8 h3) h6 (h7.imp id fun h => ⟨_, h, Nat.le_refl _⟩))
   rw [show (xy ++ [byte]).length = xy.length + 1 by simp] at HW
   have hb2 : Blk w2 b TWP _ := (HB.out.keep HC.out id).keep h6 (fun h => by have := HOG.out _ h; omega)
   have f0 := hb2.frozen 0
   have q1 := hb2.cell 0
   simp only [List.getElem?_toArray, List.getElem?_cons_zero] at q1
   clear h3 h6 hb2 hsh HF
   (try simp only [Act.put, sqa, sqb, sqc])
   go_wp2_with fail
   refine NoPanic.normal ?_
   go_wp2
   exact ⟨⟨j, ys ++ [byte], _, by omega, rfl, by have := HYL.out; simp; omega, HNX.out, by rw [← List.append_assoc, hxy]; exact HW.out.1, HTO.out.trans ((WTo.ext HC.out).trans HW.out.2)⟩, by simp [intOf]⟩
set_option maxRecDepth 100000 in
theorem pu8_ok (W1 : World) (b : Nat) (z : Int) (n width : Nat) (hz : IntKind.u64.wrap z = (n : Int)) (hw : width ≤ 8) (w : World) (o : Option Nat) (xs : List UInt8) (h : WrAt TWP W1 w b o xs) (hl : xs.length + width ≤ 140737488355328) :
  Calls Tryz.prog 100 #[.pointer (some ⟨b, 0, none⟩), .int .u8 z, .int .i64 width] w (WrIs TWP W1 w b o (xs ++ beN n width)) := by
 have H := hid h
 have HL := hid hl
 clear h hl
 have hwX : (width : Int) ≤ 8 := by omega
 go_enter Tryz.func100, Tryz.ntmps100
 go_wp2_with fail
 go_loopw [6] (fun i wr => ∃ (j : Nat) (ys : List UInt8) (o1 : Option Nat), j ≤ width ∧ i = .int .i64 ((j : Int) - 1) ∧ ys.length + j = width ∧ ys ++ beN n j = beN n width ∧ WrAt TWP W1 wr b o1 (xs ++ ys) ∧ WTo b o w o1 wr) (fun i _ => (intOf i + 1).toNat)
 case atStart => exact ⟨width, [], o, Nat.le_refl _, rfl, by simp, rfl, by rw [List.append_nil]; exact H.out, WTo.refl _ _ _⟩
 case round =>
  obtain ⟨j, ys, o1, hj, rfl, hyl, hys, hwr, hto⟩ := hrel
  have HTO := hid hto
  have HYL := hid hyl
  have HYS := hid hys
  have HWR := hid hwr
  clear hyl hys hwr hto
  rcases j with _ | j
  ·have e0 : ys = beN n width := by have := HYS.out; rw [beN, List.append_nil] at this; exact this
   subst e0
   clear hj
   go_wp2
   go_end0
   exact ⟨rfl, _, HWR.out, HTO.out⟩
  ·obtain ⟨X, hb, hown, rfl, hlt, hk⟩ := HWR.out
   obtain ⟨A, c, rfl, hlc, hcm⟩ := hown.shape
   have HO := hid hown
   have HB := hid hb
   have HK := hid hk
   have HOG := hid (fun g hg => hown.lt (g := g) hg)
   have HNX := hid (show (ys ++ [UInt8.ofNat (n / 256 ^ j)]) ++ beN n j = beN n width from by rw [List.append_assoc]; exact HYS.out)
   have HZ := hid (show (xs ++ ys).length + 1 ≤ 140737488355328 from by rw [List.length_append]; have := HL.out; have := HYL.out; omega)
   have hbyte : U8 (UInt8.ofNat (n / 256 ^ j)) = Value.int .u8 ((n : Int) / 2 ^ (8 * j) % 256) := by
    simp only [U8, UInt8.toNat_ofNat']
    rw [show (256 : Nat) ^ j = 2 ^ (8 * j) by rw [Nat.pow_mul]]
    simp
   have HU := hid hbyte
   have q0 := hb.cell 0
   simp only [List.getElem?_toArray, List.getElem?_cons_zero] at q0
   clear hown hb hk hbyte
   have e1 : ((j + 1 : Nat) : Int) - 1 = (j : Int) := by omega
   have hjX : (j : Int) + 1 ≤ width := by omega
   have hsh : Op.shift .shr .u64 (n : Int) .i64 (IntKind.i64.wrap (8 * (j : Int))) = pure (.int .u64 ((n : Int) / 2 ^ (8 * j))) := by
    have h80 : (0 : Int) ≤ 8 * (j : Int) := by omega
    have h81 : 8 * (j : Int) ≤ (64 : Nat) := by omega
    have h82 : (8 * (j : Int)).toNat = 8 * j := by omega
    have h83 := shift_shr .u64 .i64 (n : Int) (8 * (j : Int)) h80 h81
    rw [h82] at h83
    rw [IntWalk.i64_in _ (by omega)]
    exact h83
   rw [e1]
   clear e1 hlc hcm
   generalize UInt8.ofNat (n / 256 ^ j) = byte at *
   generalize hxy : xs ++ ys = xy at *
   go_wp2_with fail
   refine wp_region_parts [0] [1, 2, 3, 4, 5, 6, 7, 8, 9, 10, 11] [12, 13, 14, 15] (specOf [(11, fun v w' => SlShape EU8 w' (fun k => wr.heap.size ≤ k) v 1 [byte])])
    (fun w' => Ext wr w') (stable_cons (fun v w w' h he => h.ext EU8.ok he) stable_nil) (stableC_ext _) (by kernel_rfl) (by kernel_rfl) (Keep.drew (Keep.refl _ _)) ?_
   iterate 1
    (try simp only [Act.put, sqa, sqb, sqc])
    refine pure_run rfl rfl ?_
    apply Exists.intro
    refine ⟨fun w' => ?_, ?_⟩
    ·go_simp
     rfl
   refine pure_nil ?_
   iterate 10
    (try simp only [Act.put, sqa, sqb, sqc])
    refine growP_run rfl rfl rfl ?_
    apply Exists.intro
    refine ⟨fun w' hC hK => ?_, ?_⟩
    ·have q0 := sqw hC q0
     go_simp
     rfl
   (try simp only [Act.put, sqa, sqb, sqc])
   refine growP_eff rfl rfl rfl (fun w' hC hK => ?_) (fun v11 hv11 => ?_)
   ·unfold growAt
    go_simp
    have h1 := bytes_new (w := w') (t := TU8) (f := (0, 0)) [byte] (by simp [maxLen])
    simp only [List.map_cons, List.map_nil, HU.out] at h1
    exact ⟨(Keep.refl _ _).alloc _, _, _, rfl, h1.more EU8.ok fun k _ h => by have := hC.size; omega⟩
   obtain ⟨_, _, A7, c7, rfl, _⟩ := hv11.head
   refine growP_nil fun w' hC hK => ?_
   obtain ⟨_, _, _, f7⟩ : SlShape EU8 w' (fun k => wr.heap.size ≤ k) (.slice A7 1 c7) 1 [byte] := hK (11, _) List.mem_cons_self
   have hC : Ext wr w' := hC
   have HC := hid hC
   have HF := hid f7
   clear hv11 hK f7 hC q0
   change wpList _ _ _ (_ :: _ :: _ :: _ :: []) _ _
   (try simp only [Act.put, sqa, sqb, sqc])
   refine wpList_own_append (E := EU8) _ rfl (.tmp 17) (.tmp 24) EU8.ok ty_u8 rfl rfl rfl (HO.out.ext EU8.ok HC.out) HF.out ?c1 ?c2 ?c4 ?c3 ?_
   case c1 => intro g hg; exact ⟨id, fun h => by have := (HOG.out g hg).2; omega⟩
   case c2 => have := HZ.out; simp; omega
   case c4 => have := HZ.out; simp [maxLen]; omega
   case c3 => have := HK.out.size; have := HC.out.size; omega
   intro v' w2 h3 h6 h7
   obtain ⟨A', c', rfl, h4, h5⟩ := h3.shape
   have HW := hid (WrAt.stored (HB.out.keep HC.out id) (HO.out.ext EU8.ok HC.out) hlt (HK.out.ext HC.out) (own_u8 h3) h6 (h7.imp id fun h => ⟨_, h, Nat.le_refl _⟩))
   rw [show (xy ++ [byte]).length = xy.length + 1 by simp] at HW
   have hb2 : Blk w2 b TWP _ := (HB.out.keep HC.out id).keep h6 (fun h => by have := HOG.out _ h; omega)
   have f0 := hb2.frozen 0
   have q1 := hb2.cell 0
   simp only [List.getElem?_toArray, List.getElem?_cons_zero] at q1
   clear h3 h6 hb2 hsh HF
   (try simp only [Act.put, sqa, sqb, sqc])
   go_wp2_with fail
   refine NoPanic.normal ?_
   go_wp2
   exact ⟨⟨j, ys ++ [byte], _, by omega, rfl, by have := HYL.out; simp; omega, HNX.out, by rw [← List.append_assoc, hxy]; exact HW.out.1, HTO.out.trans ((WTo.ext HC.out).trans HW.out.2)⟩, by simp [intOf]⟩
set_option maxRecDepth 100000 in
theorem pi64_ok (W1 : World) (b : Nat) (z : Int) (n width : Nat) (hz : IntKind.u64.wrap z = (n : Int)) (hw : width ≤ 8) (w : World) (o : Option Nat) (xs : List UInt8) (h : WrAt TWP W1 w b o xs) (hl : xs.length + width ≤ 140737488355328) :
  Calls Tryz.prog 101 #[.pointer (some ⟨b, 0, none⟩), .int .i64 z, .int .i64 width] w (WrIs TWP W1 w b o (xs ++ beN n width)) := by
 have H := hid h
 have HL := hid hl
 clear h hl
 have hwX : (width : Int) ≤ 8 := by omega
 go_enter Tryz.func101, Tryz.ntmps101
 go_wp2_with fail
 go_loopw [6] (fun i wr => ∃ (j : Nat) (ys : List UInt8) (o1 : Option Nat), j ≤ width ∧ i = .int .i64 ((j : Int) - 1) ∧ ys.length + j = width ∧ ys ++ beN n j = beN n width ∧ WrAt TWP W1 wr b o1 (xs ++ ys) ∧ WTo b o w o1 wr) (fun i _ => (intOf i + 1).toNat)
 case atStart => exact ⟨width, [], o, Nat.le_refl _, rfl, by simp, rfl, by rw [List.append_nil]; exact H.out, WTo.refl _ _ _⟩
 case round =>
  obtain ⟨j, ys, o1, hj, rfl, hyl, hys, hwr, hto⟩ := hrel
  have HTO := hid hto
  have HYL := hid hyl
  have HYS := hid hys
  have HWR := hid hwr
  clear hyl hys hwr hto
  rcases j with _ | j
  ·have e0 : ys = beN n width := by have := HYS.out; rw [beN, List.append_nil] at this; exact this
   subst e0
   clear hj
   go_wp2
   go_end0
   exact ⟨rfl, _, HWR.out, HTO.out⟩
  ·obtain ⟨X, hb, hown, rfl, hlt, hk⟩ := HWR.out
   obtain ⟨A, c, rfl, hlc, hcm⟩ := hown.shape
   have HO := hid hown
   have HB := hid hb
   have HK := hid hk
   have HOG := hid (fun g hg => hown.lt (g := g) hg)
   have HNX := hid (show (ys ++ [UInt8.ofNat (n / 256 ^ j)]) ++ beN n j = beN n width from by rw [List.append_assoc]; exact HYS.out)
   have HZ := hid (show (xs ++ ys).length + 1 ≤ 140737488355328 from by rw [List.length_append]; have := HL.out; have := HYL.out; omega)
   have hbyte : U8 (UInt8.ofNat (n / 256 ^ j)) = Value.int .u8 ((n : Int) / 2 ^ (8 * j) % 256) := by
    simp only [U8, UInt8.toNat_ofNat']
    rw [show (256 : Nat) ^ j = 2 ^ (8 * j) by rw [Nat.pow_mul]]
    simp
   have HU := hid hbyte
   have q0 := hb.cell 0
   simp only [List.getElem?_toArray, List.getElem?_cons_zero] at q0
   clear hown hb hk hbyte
   have e1 : ((j + 1 : Nat) : Int) - 1 = (j : Int) := by omega
   have hjX : (j : Int) + 1 ≤ width := by omega
   have hsh : Op.shift .shr .u64 (n : Int) .i64 (IntKind.i64.wrap (8 * (j : Int))) = pure (.int .u64 ((n : Int) / 2 ^ (8 * j))) := by
    have h80 : (0 : Int) ≤ 8 * (j : Int) := by omega
    have h81 : 8 * (j : Int) ≤ (64 : Nat) := by omega
    have h82 : (8 * (j : Int)).toNat = 8 * j := by omega
    have h83 := shift_shr .u64 .i64 (n : Int) (8 * (j : Int)) h80 h81
    rw [h82] at h83
    rw [IntWalk.i64_in _ (by omega)]
    exact h83
   rw [e1]
   clear e1 hlc hcm
   generalize UInt8.ofNat (n / 256 ^ j) = byte at *
   generalize hxy : xs ++ ys = xy at *
   go_wp2_with fail
   refine wp_region_parts [0] [1, 2, 3, 4, 5, 6, 7, 8, 9, 10, 11] [12, 13, 14, 15] (specOf [(11, fun v w' => SlShape EU8 w' (fun k => wr.heap.size ≤ k) v 1 [byte])])
    (fun w' => Ext wr w') (stable_cons (fun v w w' h he => h.ext EU8.ok he) stable_nil) (stableC_ext _) (by kernel_rfl) (by kernel_rfl) (Keep.drew (Keep.refl _ _)) ?_
   iterate 1
    (try simp only [Act.put, sqa, sqb, sqc])
    refine pure_run rfl rfl ?_
    apply Exists.intro
    refine ⟨fun w' => ?_, ?_⟩
    ·go_simp
     rfl
   refine pure_nil ?_
   iterate 10
    (try simp only [Act.put, sqa, sqb, sqc])
    refine growP_run rfl rfl rfl ?_
    apply Exists.intro
    refine ⟨fun w' hC hK => ?_, ?_⟩
    ·have q0 := sqw hC q0
     go_simp
     rfl
   (try simp only [Act.put, sqa, sqb, sqc])
   refine growP_eff rfl rfl rfl (fun w' hC hK => ?_) (fun v11 hv11 => ?_)
   ·unfold growAt
    go_simp
    have h1 := bytes_new (w := w') (t := TU8) (f := (0, 0)) [byte] (by simp [maxLen])
    simp only [List.map_cons, List.map_nil, HU.out] at h1
    exact ⟨(Keep.refl _ _).alloc _, _, _, rfl, h1.more EU8.ok fun k _ h => by have := hC.size; omega⟩
   obtain ⟨_, _, A7, c7, rfl, _⟩ := hv11.head
   refine growP_nil fun w' hC hK => ?_
   obtain ⟨_, _, _, f7⟩ : SlShape EU8 w' (fun k => wr.heap.size ≤ k) (.slice A7 1 c7) 1 [byte] := hK (11, _) List.mem_cons_self
   have hC : Ext wr w' := hC
   have HC := hid hC
   have HF := hid f7
   clear hv11 hK f7 hC q0
   change wpList _ _ _ (_ :: _ :: _ :: _ :: []) _ _
   (try simp only [Act.put, sqa, sqb, sqc])
   refine wpList_own_append (E := EU8) _ rfl (.tmp 17) (.tmp 24) EU8.ok ty_u8 rfl rfl rfl (HO.out.ext EU8.ok HC.out) HF.out ?c1 ?c2 ?c4 ?c3 ?_
   case c1 => intro g hg; exact ⟨id, fun h => by have := (HOG.out g hg).2; omega⟩
   case c2 => have := HZ.out; simp; omega
   case c4 => have := HZ.out; simp [maxLen]; omega
   case c3 => have := HK.out.size; have := HC.out.size; omega
   intro v' w2 h3 h6 h7
   obtain ⟨A', c', rfl, h4, h5⟩ := h3.shape
   have HW := hid (WrAt.stored (HB.out.keep HC.out id) (HO.out.ext EU8.ok HC.out) hlt (HK.out.ext HC.out) (own_u8 h3) h6 (h7.imp id fun h => ⟨_, h, Nat.le_refl _⟩))
   rw [show (xy ++ [byte]).length = xy.length + 1 by simp] at HW
   have hb2 : Blk w2 b TWP _ := (HB.out.keep HC.out id).keep h6 (fun h => by have := HOG.out _ h; omega)
   have f0 := hb2.frozen 0
   have q1 := hb2.cell 0
   simp only [List.getElem?_toArray, List.getElem?_cons_zero] at q1
   clear h3 h6 hb2 hsh HF
   (try simp only [Act.put, sqa, sqb, sqc])
   go_wp2_with fail
   refine NoPanic.normal ?_
   go_wp2
   exact ⟨⟨j, ys ++ [byte], _, by omega, rfl, by have := HYL.out; simp; omega, HNX.out, by rw [← List.append_assoc, hxy]; exact HW.out.1, HTO.out.trans ((WTo.ext HC.out).trans HW.out.2)⟩, by simp [intOf]⟩
set_option maxRecDepth 100000 in
theorem ptext_ok (W1 : World) (b : Nat) (s : ByteArray) (hs : s.size < 4294967296) (w : World) (o : Option Nat) (xs : List UInt8) (h : WrAt TWP W1 w b o xs) (hl : xs.length + (4 + s.size) ≤ 140737488355328) :
  Calls Tryz.prog 102 #[.pointer (some ⟨b, 0, none⟩), .string s] w (WrIs TWP W1 w b o (xs ++ encT s)) := by
 have H := hid h
 have HL := hid hl
 have HS := hid hs
 have hsX : (s.size : Int) < 4294967296 := by omega
 clear h hl hs
 go_enter Tryz.func102, Tryz.ntmps102
 go_wp2_with fail
 refine (pint_ok W1 b s.size s.size 4 (IntWalk.u64_in _ (by have := HS.out; omega)) (by omega) w o xs H.out (by have := HL.out; omega)).mono ?_
 rintro e w1 ⟨rfl, o1, hw, hto⟩
 have HTO := hid hto
 clear hto
 obtain ⟨X, hb, hown, rfl, hlt, hk⟩ := hw
 obtain ⟨A, c, rfl, hlc, hcm⟩ := hown.shape
 have q0 := hb.cell 0
 simp only [List.getElem?_toArray, List.getElem?_cons_zero] at q0
 have HB := hid hb
 have HO := hid hown
 have HK := hid hk
 have HZ := hid (show (xs ++ beN s.size 4).length + s.size ≤ 140737488355328 from by rw [List.length_append, beN_len]; have := HL.out; omega)
 have HOG := hid (fun g hg => hown.lt (g := g) hg)
 have HSZ := hid hk.size
 clear hb hown hk hlc hcm
 generalize hxy : xs ++ beN s.size 4 = xy at *
 go_wp2_with (at_builtin; refine wpList_append_str rfl (.tmp 12) (.tmp 13) s ty_u8 zero_u8 Tryz.underlying9 rfl rfl rfl HO.out HZ.out HSZ.out ?_)
 intro v' w' h3 h6 h7
 obtain ⟨A', c', rfl, _, _⟩ := h3.shape
 have HW := hid (WrAt.stored HB.out HO.out hlt HK.out h3 h6 h7)
 have hb2 : Blk w' b TWP _ := HB.out.keep h6 (fun h => by have := HOG.out _ h; omega)
 have f0 := hb2.frozen 0
 have q1 := hb2.cell 0
 simp only [List.getElem?_toArray, List.getElem?_cons_zero] at q1
 clear h3 h6 hb2 q0
 go_wp2
 go_end0
 have := HW.out
 rw [List.length_append, byt_len] at this
 refine ⟨rfl, _, ?_, HTO.out.trans this.2⟩
 rw [encT, ← List.append_assoc, hxy]
 exact this.1
abbrev set5 (w : World) (g o : Nat) (a b c d e : Value) : World := ((((w.setCell ⟨g, o, none⟩ a).setCell ⟨g, o + 1, none⟩ b).setCell ⟨g, o + 2, none⟩ c).setCell ⟨g, o + 3, none⟩ d).setCell ⟨g, o + 4, none⟩ e
theorem set5_keep (w : World) (g o : Nat) (a b c d e : Value) : Keep (· = g) w (set5 w g o a b c d e) := (((((Keep.refl (· = g) w).set1 o a).set1 (o + 1) b).set1 (o + 2) c).set1 (o + 3) d).set1 (o + 4) e
theorem set5_blk {w : World} {g : Nat} {T : TypeId} {cur : Array Value} (h : Blk w g T cur) (o : Nat) (a b c d e : Value) (ho : o + 5 ≤ cur.size) :
  ∃ cur', Blk (set5 w g o a b c d e) g T cur' ∧ cur'.toList = cur.toList.take o ++ [a, b, c, d, e] ++ cur.toList.drop (o + 5) := by
 refine ⟨_, ((((h.set_ o a).set_ (o + 1) b).set_ (o + 2) c).set_ (o + 3) d).set_ (o + 4) e, ?_⟩
 simp only [Array.toList_setIfInBounds]
 exact list_five _ _ _ _ _ _ _ (by simpa using ho)
section
variable {w : World} {S1 S0 : BS} {base : Nat} {T : TypeId} {v : Value} {j : Nat}
end
section
variable {w wr : World} {S : BS} {bx b1 B : Nat} {k0 n0 s0 lv ov : Value} {vl : List V} {vo : List F} {j i : Nat}
end
def RowB (w : World) (a b : Nat) (T : TypeId) (sz : Nat) (v : Value) (n : Nat) (cs : List Value) : Prop :=
 cs.length = n * sz ∧ ((v = .slice none 0 0 ∧ n = 0) ∨ ∃ g cap cur, v = .slice (some ⟨g, 0, none⟩) n cap ∧ a ≤ g ∧ g < b ∧ Blk w g T cur ∧ n ≤ cap ∧ cap ≤ maxLen ∧ cur.size = cap * sz ∧ cur.toList.take (n * sz) = cs)
section
variable {Fr : Nat → Prop} {w w' : World} {a b a' b' : Nat} {T : TypeId} {sz n : Nat} {v : Value} {cs : List Value}
theorem RowB.keep (h : RowB w a b T sz v n cs) (hk : Keep Fr w w') (hF : ∀ q, a ≤ q → q < b → ¬ Fr q) : RowB w' a b T sz v n cs := by
 obtain ⟨h0, h | ⟨g, cap, cur, e, h1, h2, h3, h4⟩⟩ := h
 ·exact ⟨h0, .inl h⟩
 ·exact ⟨h0, .inr ⟨g, cap, cur, e, h1, h2, h3.keep hk (hF g h1 h2), h4⟩⟩
theorem RowB.ne_ {T' : TypeId} {sz' n' : Nat} {v' : Value} {cs' : List Value} (h : RowB w a b T sz v n cs) (h' : RowB w a' b' T' sz' v' n' cs') (hne : T ≠ T') : ∀ g cap g' cap', v = .slice (some ⟨g, 0, none⟩) n cap → v' = .slice (some ⟨g', 0, none⟩) n' cap' → g ≠ g' := by
 intro g cap g' cap' e e'
 obtain ⟨h0, ⟨rfl, _⟩ | ⟨g1, cap1, cur, rfl, h1, h2, h3, h4⟩⟩ := h
 ·cases e
 obtain ⟨h0', ⟨rfl, _⟩ | ⟨g2, cap2, cur2, rfl, h1', h2', h3', h4'⟩⟩ := h'
 ·cases e'
 injection e with e; injection e with e; injection e with e
 injection e' with e'; injection e' with e'; injection e' with e'
 subst e e'
 exact h3.ne_ h3' hne
theorem RowB.mono (h : RowB w a b T sz v n cs) (ha : a' ≤ a) (hb : b ≤ b') : RowB w a' b' T sz v n cs := by
 obtain ⟨h0, h | ⟨g, cap, cur, e, h1, h2, h3, h4⟩⟩ := h
 ·exact ⟨h0, .inl h⟩
 ·exact ⟨h0, .inr ⟨g, cap, cur, e, by omega, by omega, h3, h4⟩⟩
theorem RowB.shape (h : RowB w a b T sz v n cs) : ∃ A c, v = .slice A n c ∧ n ≤ c ∧ c ≤ maxLen := by
 obtain ⟨h0, ⟨rfl, rfl⟩ | ⟨g, cap, cur, rfl, h1, h2, h3, h4, h5, _⟩⟩ := h
 ·exact ⟨none, 0, rfl, by simp, by simp [maxLen]⟩
 ·exact ⟨_, cap, rfl, h4, h5⟩
theorem RowB.rowS (h : RowB w a b T sz v n cs) {S : BS} (hS : ∀ q, a ≤ q → q < b → S q) : RowS w S sz v n cs := by
 obtain ⟨h0, ⟨rfl, rfl⟩ | ⟨g, cap, cur, rfl, h1, h2, h3, h4, h5, h6, h7⟩⟩ := h
 ·exact ⟨h0, none, 0, rfl, by simp, by simp [maxLen], fun h => by simp at h⟩
 ·refine ⟨h0, _, cap, rfl, h4, h5, fun _ => ⟨g, 0, rfl, hS g h1 h2, h3.lt, fun j u hu => ?_⟩⟩
  rw [Nat.zero_add, h3.cell]
  have hj := (List.getElem?_eq_some_iff.1 hu).1
  rw [← h7, List.getElem?_take_of_lt (by omega)] at hu
  simpa using hu
end
mutual
def TV (w : World) : V → Nat → Nat → List Value → Prop
 | .mk k n s l o, a, b, cs => ∃ lv ov ls os a1 a2, cs = [U8 k, .int .i64 n, .string s, lv, ov] ∧ a ≤ a1 ∧ RowB w a a1 TVAL 5 lv l.length ls ∧ RowB w a a1 TFIELD 6 ov o.length os ∧ TVs w l a1 a2 ls ∧ TFs w o a2 b os
def TVs (w : World) : List V → Nat → Nat → List Value → Prop
 | [], a, b, cs => cs = [] ∧ a ≤ b
 | v :: vs, a, b, cs => ∃ c0 c1 m, cs = c0 ++ c1 ∧ TV w v a m c0 ∧ TVs w vs m b c1
def TF (w : World) : F → Nat → Nat → List Value → Prop
 | .mk k v, a, b, cs => ∃ c0, cs = .string k :: c0 ∧ TV w v a b c0
def TFs (w : World) : List F → Nat → Nat → List Value → Prop
 | [], a, b, cs => cs = [] ∧ a ≤ b
 | f :: fs, a, b, cs => ∃ c0 c1 m, cs = c0 ++ c1 ∧ TF w f a m c0 ∧ TFs w fs m b c1
end
mutual
theorem TV_le {w : World} : ∀ (v : V) (a b : Nat) (cs : List Value), TV w v a b cs → a ≤ b ∧ cs.length = 5
 | .mk k n s l o, a, b, cs, h => by
  rw [TV] at h
  obtain ⟨lv, ov, ls, os, a1, a2, rfl, h1, _, _, h3, h4⟩ := h
  have := (TVs_le l a1 a2 ls h3).1
  have := (TFs_le o a2 b os h4).1
  exact ⟨by omega, rfl⟩
theorem TVs_le {w : World} : ∀ (l : List V) (a b : Nat) (cs : List Value), TVs w l a b cs → a ≤ b ∧ cs.length = l.length * 5
 | [], a, b, cs, h => by rw [TVs] at h; obtain ⟨rfl, h⟩ := h; exact ⟨h, rfl⟩
 | v :: vs, a, b, cs, h => by
  rw [TVs] at h
  obtain ⟨c0, c1, m, rfl, h1, h2⟩ := h
  have h3 := TV_le v a m c0 h1
  have h4 := TVs_le vs m b c1 h2
  exact ⟨by omega, by rw [List.length_append, List.length_cons, h3.2, h4.2]; omega⟩
theorem TF_le {w : World} : ∀ (f : F) (a b : Nat) (cs : List Value), TF w f a b cs → a ≤ b ∧ cs.length = 6
 | .mk k v, a, b, cs, h => by
  rw [TF] at h
  obtain ⟨c0, rfl, h⟩ := h
  have := TV_le v a b c0 h
  exact ⟨this.1, by rw [List.length_cons, this.2]⟩
theorem TFs_le {w : World} : ∀ (l : List F) (a b : Nat) (cs : List Value), TFs w l a b cs → a ≤ b ∧ cs.length = l.length * 6
 | [], a, b, cs, h => by rw [TFs] at h; obtain ⟨rfl, h⟩ := h; exact ⟨h, rfl⟩
 | v :: vs, a, b, cs, h => by
  rw [TFs] at h
  obtain ⟨c0, c1, m, rfl, h1, h2⟩ := h
  have h3 := TF_le v a m c0 h1
  have h4 := TFs_le vs m b c1 h2
  exact ⟨by omega, by rw [List.length_append, List.length_cons, h3.2, h4.2]; omega⟩
end
mutual
theorem TV_keep {Fr : Nat → Prop} {w w' : World} (hk : Keep Fr w w') : ∀ (v : V) (a b : Nat) (cs : List Value), (∀ q, a ≤ q → q < b → ¬ Fr q) → TV w v a b cs → TV w' v a b cs
 | .mk k n s l o, a, b, cs, hF, h => by
  rw [TV] at h ⊢
  obtain ⟨lv, ov, ls, os, a1, a2, rfl, h1, h3, h4, h5, h6⟩ := h
  have := (TVs_le l a1 a2 ls h5).1
  have := (TFs_le o a2 b os h6).1
  exact ⟨lv, ov, ls, os, a1, a2, rfl, h1, h3.keep hk (fun q _ _ => hF q (by omega) (by omega)), h4.keep hk (fun q _ _ => hF q (by omega) (by omega)),
   TVs_keep hk l a1 a2 ls (fun q _ _ => hF q (by omega) (by omega)) h5, TFs_keep hk o a2 b os (fun q _ _ => hF q (by omega) (by omega)) h6⟩
theorem TVs_keep {Fr : Nat → Prop} {w w' : World} (hk : Keep Fr w w') : ∀ (l : List V) (a b : Nat) (cs : List Value), (∀ q, a ≤ q → q < b → ¬ Fr q) → TVs w l a b cs → TVs w' l a b cs
 | [], a, b, cs, hF, h => by rw [TVs] at h ⊢; exact h
 | v :: vs, a, b, cs, hF, h => by
  rw [TVs] at h ⊢
  obtain ⟨c0, c1, m, rfl, h1, h2⟩ := h
  have := (TV_le v a m c0 h1).1
  have := (TVs_le vs m b c1 h2).1
  exact ⟨c0, c1, m, rfl, TV_keep hk v a m c0 (fun q _ _ => hF q (by omega) (by omega)) h1, TVs_keep hk vs m b c1 (fun q _ _ => hF q (by omega) (by omega)) h2⟩
theorem TF_keep {Fr : Nat → Prop} {w w' : World} (hk : Keep Fr w w') : ∀ (f : F) (a b : Nat) (cs : List Value), (∀ q, a ≤ q → q < b → ¬ Fr q) → TF w f a b cs → TF w' f a b cs
 | .mk k v, a, b, cs, hF, h => by
  rw [TF] at h ⊢
  obtain ⟨c0, rfl, h⟩ := h
  exact ⟨c0, rfl, TV_keep hk v a b c0 hF h⟩
theorem TFs_keep {Fr : Nat → Prop} {w w' : World} (hk : Keep Fr w w') : ∀ (l : List F) (a b : Nat) (cs : List Value), (∀ q, a ≤ q → q < b → ¬ Fr q) → TFs w l a b cs → TFs w' l a b cs
 | [], a, b, cs, hF, h => by rw [TFs] at h ⊢; exact h
 | v :: vs, a, b, cs, hF, h => by
  rw [TFs] at h ⊢
  obtain ⟨c0, c1, m, rfl, h1, h2⟩ := h
  have := (TF_le v a m c0 h1).1
  have := (TFs_le vs m b c1 h2).1
  exact ⟨c0, c1, m, rfl, TF_keep hk v a m c0 (fun q _ _ => hF q (by omega) (by omega)) h1, TFs_keep hk vs m b c1 (fun q _ _ => hF q (by omega) (by omega)) h2⟩
end
inductive Loc where
 | l (i : Nat)
 | o (k : Nat)
def V.put : V → Loc → V → V
 | .mk k n s l o, .l i, x => .mk k n s (l.set i x) o
 | .mk k n s l o, .o j, x => .mk k n s l (match o[j]? with | some f => o.set j (.mk f.key x) | none => o)
def At5 (w : World) (b off : Nat) (cs : List Value) : Prop := ∀ j u, cs[j]? = some u → w.cell? ⟨b, off + j, none⟩ = some u
def PtrT (w : World) (b off : Nat) (x : V) (a c : Nat) : Prop := ∃ cs, At5 w b off cs ∧ TV w x a c cs ∧ ¬ (a ≤ b ∧ b < c) ∧ ∀ i, w.frozen? ⟨b, i, none⟩ = false
def Hole (w : World) (S : BS) (rb roff b off : Nat) (f : V → V) (a c : Nat) : Prop :=
 ∀ (w' : World) (Fr : Nat → Prop) (cs : List Value) (x : V), Keep Fr w w' → (∀ k, k < w.heap.size → Fr k → (a ≤ k ∧ k < c) ∨ k = b) → (∀ i, (i < off ∨ off + 5 ≤ i) → w'.cell? ⟨b, i, none⟩ = w.cell? ⟨b, i, none⟩) → At5 w' b off cs → rdV w' S x cs →
  ∃ rcs, At5 w' rb roff rcs ∧ rdV w' S (f x) rcs
theorem PtrT.ext {w w' : World} {b off : Nat} {x : V} {a c : Nat} (h : PtrT w b off x a c) (he : Ext w w') : PtrT w' b off x a c := by
 obtain ⟨cs, h1, h2, h3, h4⟩ := h
 refine ⟨cs, fun j u hu => (he.cell (lt_of_cell (h1 j u hu)) id).trans (h1 j u hu), TV_keep he _ _ _ _ (fun _ _ _ x => x) h2, h3, fun i => ?_⟩
 have h5 := TV_le _ _ _ _ h2
 obtain ⟨u, hu⟩ : ∃ u, cs[0]? = some u := ⟨cs[0]'(by omega), by simp⟩
 have hb : b < w.heap.size := lt_of_cell (h1 0 u hu)
 exact (he.frozen (p := ⟨b, i, none⟩) hb id).trans (h4 i)
theorem Hole.ext {w w' : World} {S : BS} {rb roff b off : Nat} {f : V → V} {a c : Nat} (h : Hole w S rb roff b off f a c) (he : Ext w w') (hc : c ≤ w.heap.size) (hb : b < w.heap.size) : Hole w' S rb roff b off f a c := by
 intro w2 Fr cs x hk hF hi h1 h2
 have hkk : Keep (fun k => k < w.heap.size ∧ Fr k) w w2 := (Keep.mono (G := fun k => k < w.heap.size ∧ Fr k) he (fun _ _ x => x.elim)).trans hk (fun k hk' hf => ⟨hk', hf⟩)
 exact h w2 (fun k => k < w.heap.size ∧ Fr k) cs x hkk (fun k hk' hf => hF k (Nat.lt_of_lt_of_le hk' he.size) hf.2) (fun i hi' => (hi i hi').trans (he.cell hb id)) h1 h2
def fieldL (o : List F) (key : ByteArray) : Nat := (o.takeWhile fun f => keyLt f.key key).length
def fieldIs (o : List F) (key : ByteArray) : Bool := match o[fieldL o key]? with | some f => f.key.toList == key.toList | none => false
theorem fieldL_le (o : List F) (key : ByteArray) : fieldL o key ≤ o.length := by
 unfold fieldL
 exact (List.takeWhile_prefix _).length_le
theorem fieldL_at {o : List F} {key : ByteArray} {j : Nat} (hj : j ≤ o.length) (h : ∀ i (hi : i < o.length), i < j → keyLt o[i].key key = true) (h2 : ∀ hj' : j < o.length, keyLt o[j].key key = false) : fieldL o key = j := by
 unfold fieldL
 induction o generalizing j with
 | nil => simp at hj; simp [hj]
 | cons f fs ih =>
  cases j with
  | zero =>
   have := h2 (by simp)
   simp only [List.getElem_cons_zero] at this
   simp [List.takeWhile_cons, this]
  | succ j =>
   have h0 := h 0 (by simp) (by omega)
   simp only [List.getElem_cons_zero] at h0
   rw [List.takeWhile_cons, h0]
   simp only [↓reduceIte, List.length_cons]
   rw [ih (by simpa using hj) (fun i hi hij => by have := h (i + 1) (by simpa using hi) (by omega); simpa using this) (fun hj' => by have := h2 (by simpa using hj'); simpa using this)]
theorem fieldIs_some {o : List F} {key : ByteArray} {j : Nat} (hj : j < o.length) (h : fieldL o key = j) : fieldIs o key = (o[j].key.toList == key.toList) := by
 unfold fieldIs
 rw [h]
 simp [hj]
theorem fieldIs_none {o : List F} {key : ByteArray} (h : fieldL o key = o.length) : fieldIs o key = false := by
 unfold fieldIs
 rw [h]
 simp
theorem EField_cells {w : World} {S : BS} {cs : List Value} {f : F} (h : EField.rd w S cs f) : ∃ lv ov, cs = [.string f.key, U8 f.v.kind, .int .i64 f.v.n, .string f.v.s, lv, ov] ∧ (∃ A c, lv = .slice A f.v.l.length c) ∧ (∃ A c, ov = .slice A f.v.o.length c) ∧ VAt w S (.agg #[U8 f.v.kind, .int .i64 f.v.n, .string f.v.s, lv, ov]) f.v := by
 obtain ⟨c0, rfl, h0⟩ := rdF_iff.1 h
 obtain ⟨lv, ov, rfl, h1, h2⟩ := rdV_iff.1 h0
 obtain ⟨A, c, rfl, _⟩ := h1.shape
 obtain ⟨A', c', rfl, _⟩ := h2.shape
 exact ⟨_, _, rfl, ⟨_, _, rfl⟩, ⟨_, _, rfl⟩, ⟨_, _, rfl, h1, h2⟩⟩
structure St where
 list : Bool
 i : Int
 key : ByteArray
def ESt : El St := { size := 3, rd := fun _ _ cs s => cs = [.bool s.list, .int .i64 s.i, .string s.key] }
theorem ESt.ok : ESt.Ok where
 pos := by decide
 len := fun h => by subst h; rfl
 one := fun h u hu => by
  subst h
  simp at hu
  rcases hu with rfl | rfl | rfl <;> rfl
 keep := fun h _ _ => h
 more := fun h _ => h
theorem fieldIs_lt {o : List F} {key : ByteArray} (h : fieldIs o key = true) : fieldL o key < o.length := by
 unfold fieldIs at h
 rcases Nat.lt_or_ge (fieldL o key) o.length with h1 | h1
 ·exact h1
 ·rw [List.getElem?_eq_none h1] at h; cases h
theorem blk_pair (w : World) (T : TypeId) (a b : Array Value) : Blk ((w.alloc (.cells a T)).alloc (.cells b T)) w.heap.size T a ∧ Blk ((w.alloc (.cells a T)).alloc (.cells b T)) (w.heap.size + 1) T b ∧ Ext w ((w.alloc (.cells a T)).alloc (.cells b T)) := by
 have := Blk.new (w.alloc (.cells a T)) T b
 rw [World.size_alloc] at this
 exact ⟨(Blk.new _ _ _).alloc _, this, ((Keep.refl _ _).alloc _).alloc _⟩
theorem encV_pos (v : V) : 0 < (encV v).length := by rw [encV_eq]; simp
theorem encVs_len : ∀ l : List V, l.length ≤ (encVs l).length
 | [] => by simp
 | v :: l => by rw [encVs, List.length_append, List.length_cons]; have := encV_pos v; have := encVs_len l; omega
theorem encFs_len : ∀ l : List F, l.length ≤ (encFs l).length
 | [] => by simp
 | f :: l => by rw [encFs, List.length_append, List.length_cons, encF_eq, List.length_append]; have := encV_pos f.v; have := encFs_len l; omega
def tailV (k : UInt8) (n : Int) (s : ByteArray) (l : List V) (o : List F) : List UInt8 :=
 if k = 1 ∨ k = 2 then beN (u64 n) 8 else if k = 3 then encT s else if k = 4 then beN l.length 4 ++ encVs l else if k = 5 then beN o.length 4 ++ encFs o else []
theorem encV_tail (v : V) : encV v = v.kind :: tailV v.kind v.n v.s v.l v.o := encV_eq v
end Go.Proofs.YtihaliffcobacaaGreatDoor
