/- Same15, LayK, LayK2, DiskQ, SnapM, SnapML: laid together. -/
import Derived.Test.YtihaliffcobacaaGreatDoorSbB37
import Derived.Shelf.SlIter.Nil
import Derived.Shelf.SortM.Plain
import Derived.Shelf.SortM.SortNone
import Derived.Ground.GgzProg
import Derived.Ground.SlgmProg
import Derived.Test.YtihaliffcobacaaGreatDoorProg
import Derived.Test.YtihaliffcobacaaGreatDoorSbB28
import Derived.Test.YtihaliffcobacaaGreatDoorSbB31
import Derived.Test.YtihaliffcobacaaGreatDoorSbB34
import Derived.Test.YtihaliffcobacaaGreatDoorSbB35
import Derived.Test.YtihaliffcobacaaGreatDoorSbB19
import Derived.Test.YtihaliffcobacaaGreatDoorSbB2
import Derived.Test.YtihaliffcobacaaGreatDoorSbB8
set_option linter.unusedSimpArgs false
set_option linter.unusedVariables false
set_option maxHeartbeats 25600000
set_option maxRecDepth 20000
namespace Go.Proofs.YtihaliffcobacaaGreatDoor
open Go.RowKit
theorem same13_x (hN : NamesAll) (w0 w : World) (B1 B2 : BS) (d r : Nat) (cs : List DC) (s : DSt) (h : Twin w0 w B1 B2 d r cs s) :
  Calls Tryz.prog 21 #[.pointer (some ⟨d, 0, none⟩), .pointer (some ⟨r, 0, none⟩)] w (fun e w' => e = .returned (.int .i64 1) ∧ Ext w w') := by
 have HNA := hid hN
 have HT := hid h
 have HNM := hid (h.good.1.names)
 have hlen : cs.length ≤ 64 := h.disk.is.1.many
 have HEX := hid (Keep.refl (fun _ => False) w)
 clear hN h
 go_enter Tryz.func21, Tryz.ntmps21
 go_wp2_with fail
 refine (HNA.out _ _ _ _ _ HT.out.disk.is).mono ?_
 rintro e w1 ⟨v1, rfl, hv1, hE⟩
 rw [HNM.out] at hv1
 replace HT := hid (HT.out.more hE)
 replace HEX := hid (HEX.out.ext hE)
 clear hE
 have HV1 := hid hv1
 clear hv1
 go_wp2_with fail
 refine (ref_names _ B2 r cs s hlen HT.out.ref).mono ?_
 rintro e w2 ⟨v2, rfl, hv2, hE⟩
 replace HT := hid (HT.out.more hE)
 replace HEX := hid (HEX.out.ext hE)
 replace HV1 := hid (HV1.out.ext EStr.ok hE)
 have HV2 := hid hv2
 clear hE hv2
 go_wp2_with fail
 refine (texts_ok _ _ _ _ _ _ _ HV1.out HV2.out).mono ?_
 rintro e w3 ⟨rfl, hE⟩
 have hdt : decide (texC cs = texC cs) = true := by simp
 rw [hdt]
 replace HT := hid (HT.out.more hE)
 replace HEX := hid (HEX.out.ext hE)
 replace HV1 := hid (HV1.out.ext EStr.ok hE)
 clear hE HV2 hdt
 go_wp2_with fail
 refine (disk_used' _ _ _ _ _ HT.out.disk.is).mono ?_
 rintro e w4 ⟨rfl, hE⟩
 replace HT := hid (HT.out.more hE)
 replace HEX := hid (HEX.out.ext hE)
 replace HV1 := hid (HV1.out.ext EStr.ok hE)
 clear hE
 go_wp2_with fail
 refine (ref_used _ _ _ _ _ (Nat.le_trans HT.out.disk.is.1.used HT.out.disk.is.1.room) HT.out.ref).mono ?_
 rintro e w5 ⟨rfl, rfl⟩
 have hun : ((usedC cs : Int) != (usedC cs : Int)) = false := by simp
 go_wp2_with fail
 refine (disk_halted _ _ _ _ _ HT.out.disk.is).mono ?_
 rintro e w6 ⟨rfl, rfl⟩
 go_wp2_with fail
 refine (ref_halted _ _ _ _ _ HT.out.ref).mono ?_
 rintro e w7 ⟨rfl, rfl⟩
 have hbb : ((s.left == 0) != (s.left == 0)) = false := by simp
 obtain ⟨A1, c1, rfl, hc1, hm1⟩ := HV1.out.shape
 have hlt : (texC cs).length = cs.length := by unfold texC; simp
 unfold maxLen at hm1
 rw [hlt] at hc1 HV1 ⊢
 obtain ⟨m, hm⟩ : ∃ m, cs.length = m := ⟨_, rfl⟩
 rw [hm] at hc1 hlen HV1 ⊢
 have HM := hid hm
 clear hm hlt
 clear hun hbb
 obtain ⟨W, hW⟩ : ∃ W, w4 = W := ⟨_, rfl⟩
 rw [hW] at HT HV1 HEX ⊢
 clear hW
 go_wp2_with fail
 go_loopw [6] (fun y wr => ∃ (i : Nat), i ≤ m ∧ y = .int .i64 i ∧ Ext W wr) (fun y _ => m - (intOf y).toNat)
 case atStart => exact ⟨0, by omega, rfl, Keep.refl _ _⟩
 case round =>
  obtain ⟨i, hi, rfl, hE⟩ := hrel
  have HE := hid hE
  clear hE
  by_cases hlt : i < m
  ·have hil : i < (texC cs).length := by unfold texC; rw [List.length_map, HM.out]; exact hlt
   have hic : i < cs.length := by rw [HM.out]; exact hlt
   obtain ⟨b, off, c0, rfl, hbw, _, hr1, hc⟩ := (HV1.out.ext EStr.ok HE.out).at_ EStr.ok hil
   have hr1 : c0 = [.string (texC cs)[i]] := hr1
   subst hr1
   have p1 := hc 0 _ rfl
   have ez : EStr.size = 1 := rfl
   have hnm : (texC cs)[i] = textOf cs[i].name := by simp [texC]
   rw [hnm] at p1
   simp only [ez, Nat.add_zero, Nat.mul_one] at p1
   have HNL := hid (HT.out.disk.is.1.names _ (List.getElem_mem hic))
   generalize cs[i].name = nm at *
   have hX : (i : Int) < m := by omega
   have HTI := hid (HT.out.more HE.out)
   clear hr1 hc ez hnm hil hic
   have HZ : (textOf nm).size ≤ maxLen := by rw [textOf_size]; have := HNL.out.2; unfold maxLen; omega
   have HHZ := hid HZ
   clear HZ
   go_wp2_with fail
   obtain ⟨code, hcode⟩ : ∃ code, (readR cs (textOf nm).data.toList).1 = code := ⟨_, rfl⟩
   obtain ⟨x, hx⟩ : ∃ x, (readR cs (textOf nm).data.toList).2 = x := ⟨_, rfl⟩
   have hcd : code = 0 ∨ code = 131 := by rw [← hcode]; unfold readR; split <;> simp
   have HCD := hid hcd
   have HC0 := hid hcode
   have HX0 := hid hx
   clear hcd hcode hx
   refine (disk_read _ B1 d cs s (textOf nm) HTI.out.disk.is HHZ.out).mono ?_
   rintro e w8 ⟨A8, c8, rfl, hb1, hE1⟩
   rw [HX0.out] at hb1 ⊢
   rw [HC0.out]
   replace p1 := sqw hE1 p1
   have HT1 := hid (HTI.out.more hE1)
   have HB1 := hid hb1
   replace HE := hid (HE.out.ext hE1)
   clear hb1 hE1
   go_wp2_with fail
   refine (ref_read _ B2 r cs s (textOf nm) (Nat.le_trans HT.out.disk.is.1.used HT.out.disk.is.1.room) HT1.out.ref).mono ?_
   rintro e w9 ⟨A9, c9, rfl, hb2, hE2⟩
   rw [HX0.out] at hb2 ⊢
   rw [HC0.out]
   replace HE := hid (HE.out.ext hE2)
   have hv1 := convert_bytesS (HB1.out.ext EU8.ok hE2)
   have hv2 := convert_bytesS hb2
   have hbe : ((textOf x).toList != (textOf x).toList) = false := by simp
   have hwc : IntKind.i64.wrap code = code := by rcases HCD.out with h | h <;> rw [h] <;> rfl
   have hce : (code != code) = false := by simp
   clear hb2 hE2 p1
   have HTT := hid HT.out
   go_wp2
   exact ⟨⟨i + 1, by omega, by go_num, HE.out⟩, by simp [intOf]; omega⟩
  ·obtain rfl : i = m := by omega
   have HTZ := hid (HEX.out.ext HE.out)
   have hX : ¬ (i : Int) < i := by omega
   go_wp2
   go_ret
   exact ⟨rfl, HTZ.out⟩
end Go.Proofs.YtihaliffcobacaaGreatDoor
namespace Go.Proofs
open Go.Shelf
def Tryz.keys76_ren : Go.Shelf.Ren := ⟨fun | 7 => 76 | 10 => 94 | n => n, fun | 23 => 60 | 26 => 9 | 3 => 84 | 28 => 133 | 0 => 0 | 27 => 132 | 33 => 85 | 4 => 4 | n => n, fun | n => n⟩
theorem Tryz.keys76 : Go.Proofs.SlLaysZ.n7 Tryz.prog Tryz.keys76_ren := {
 mixed := by kernel_rfl
 f7 := ⟨Tryz.f76.name, by decide, Tryz.func76.trans (congrArg some (by kernel_rfl))⟩
 f10 := ⟨Tryz.f94.name, by decide, Tryz.func94.trans (congrArg some (by kernel_rfl))⟩
 t0 := Tryz.underlying0
 a0 := Tryz.isAgg0
 z0 := Tryz.sizeOf0
 v0 := Tryz.zeroValue0
 t4 := Tryz.underlying4
 a4 := Tryz.isAgg4
 z4 := Tryz.sizeOf4
 v4 := Tryz.zeroValue4
 t23 := Tryz.underlying60
 a23 := Tryz.isAgg60
 z23 := Tryz.sizeOf60
 v23 := Tryz.zeroValue60
 t26 := Tryz.underlying9
 a26 := Tryz.isAgg9
 z26 := Tryz.sizeOf9
 v26 := Tryz.zeroValue9
 t27 := Tryz.underlying132
 a27 := Tryz.isAgg132
 z27 := Tryz.sizeOf132
 v27 := Tryz.zeroValue132
 t28 := Tryz.underlying133
 a28 := Tryz.isAgg133
 z28 := Tryz.sizeOf133
 v28 := Tryz.zeroValue133
 t33 := Tryz.underlying85
 a33 := Tryz.isAgg85
 z33 := Tryz.sizeOf85
 v33 := Tryz.zeroValue85 }
def Tryz.sorted75_ren : Go.Shelf.Ren := ⟨fun | 6 => 75 | 8 => 92 | 9 => 93 | 11 => 119 | 13 => 121 | 12 => 120 | 23 => 143 | 24 => 144 | 14 => 134 | 15 => 135 | 16 => 136 | 17 => 137 | 18 => 138 | 19 => 139 | 20 => 140 | 21 => 141 | 22 => 142 | 25 => 152 | 26 => 153 | 27 => 154 | 28 => 155 | 29 => 156 | 30 => 157 | 31 => 162 | n => n, fun | 26 => 9 | 28 => 133 | 24 => 99 | 0 => 0 | 3 => 3 | 37 => 120 | 48 => 112 | 50 => 119 | 4 => 4 | 40 => 206 | 39 => 205 | 45 => 163 | 5 => 5 | 9 => 9 | 51 => 225 | 55 => 229 | 57 => 234 | 58 => 235 | 33 => 85 | n => n, fun | n => n⟩
theorem Tryz.sorted75 : Go.Proofs.SlLaysZ.n6 Tryz.prog Tryz.sorted75_ren := {
 mixed := by kernel_rfl
 f6 := ⟨Tryz.f75.name, by decide, Tryz.func75.trans (congrArg some (by kernel_rfl))⟩
 f8 := ⟨Tryz.f92.name, by decide, Tryz.func92.trans (congrArg some (by kernel_rfl))⟩
 f11 := ⟨Tryz.f119.name, by decide, Tryz.func119.trans (congrArg some (by kernel_rfl))⟩
 t0 := Tryz.underlying0
 a0 := Tryz.isAgg0
 z0 := Tryz.sizeOf0
 v0 := Tryz.zeroValue0
 t24 := Tryz.underlying99
 a24 := Tryz.isAgg99
 z24 := Tryz.sizeOf99
 v24 := Tryz.zeroValue99
 t26 := Tryz.underlying9
 a26 := Tryz.isAgg9
 z26 := Tryz.sizeOf9
 v26 := Tryz.zeroValue9
 t28 := Tryz.underlying133
 a28 := Tryz.isAgg133
 z28 := Tryz.sizeOf133
 v28 := Tryz.zeroValue133
 i26 := by kernel_rfl }
def Tryz.sort93_ren : Go.Shelf.Ren := ⟨fun | 6 => 93 | 8 => 121 | 9 => 120 | 19 => 143 | 20 => 144 | 21 => 134 | 22 => 135 | 23 => 136 | 24 => 137 | 25 => 138 | 26 => 139 | 27 => 140 | 28 => 141 | 29 => 142 | 36 => 152 | 31 => 153 | 32 => 154 | 37 => 155 | 38 => 156 | 39 => 157 | 41 => 162 | n => n, fun | 27 => 99 | 29 => 9 | 3 => 3 | 32 => 120 | 26 => 99 | 0 => 0 | 44 => 112 | 46 => 119 | 4 => 4 | 36 => 206 | 35 => 205 | 41 => 163 | 5 => 5 | 9 => 9 | 53 => 225 | 57 => 229 | 63 => 234 | 64 => 235 | n => n, fun | n => n⟩
theorem Tryz.sort93 : Go.Proofs.SlLaysM.n6 Tryz.prog Tryz.sort93_ren := {
 mixed := by kernel_rfl
 f6 := ⟨Tryz.f93.name, by decide, Tryz.func93.trans (congrArg some (by kernel_rfl))⟩
 f8 := Tryz.func121.trans (congrArg some (by kernel_rfl))
 f9 := ⟨Tryz.f120.name, by decide, Tryz.func120.trans (congrArg some (by kernel_rfl))⟩
 f19 := Tryz.func143.trans (congrArg some (by kernel_rfl))
 f20 := Tryz.func144.trans (congrArg some (by kernel_rfl))
 f21 := ⟨Tryz.f134.name, by decide, Tryz.func134.trans (congrArg some (by kernel_rfl))⟩
 f22 := ⟨Tryz.f135.name, by decide, Tryz.func135.trans (congrArg some (by kernel_rfl))⟩
 f23 := ⟨Tryz.f136.name, by decide, Tryz.func136.trans (congrArg some (by kernel_rfl))⟩
 f24 := ⟨Tryz.f137.name, by decide, Tryz.func137.trans (congrArg some (by kernel_rfl))⟩
 f25 := ⟨Tryz.f138.name, by decide, Tryz.func138.trans (congrArg some (by kernel_rfl))⟩
 f26 := ⟨Tryz.f139.name, by decide, Tryz.func139.trans (congrArg some (by kernel_rfl))⟩
 f27 := ⟨Tryz.f140.name, by decide, Tryz.func140.trans (congrArg some (by kernel_rfl))⟩
 f28 := ⟨Tryz.f141.name, by decide, Tryz.func141.trans (congrArg some (by kernel_rfl))⟩
 f29 := ⟨Tryz.f142.name, by decide, Tryz.func142.trans (congrArg some (by kernel_rfl))⟩
 f31 := Tryz.func153.trans (congrArg some (by kernel_rfl))
 f32 := Tryz.func154.trans (congrArg some (by kernel_rfl))
 f36 := ⟨Tryz.f152.name, by decide, Tryz.func152.trans (congrArg some (by kernel_rfl))⟩
 f37 := ⟨Tryz.f155.name, by decide, Tryz.func155.trans (congrArg some (by kernel_rfl))⟩
 f38 := ⟨Tryz.f156.name, by decide, Tryz.func156.trans (congrArg some (by kernel_rfl))⟩
 f39 := ⟨Tryz.f157.name, by decide, Tryz.func157.trans (congrArg some (by kernel_rfl))⟩
 f41 := ⟨Tryz.f162.name, by decide, Tryz.func162.trans (congrArg some (by kernel_rfl))⟩
 t0 := Tryz.underlying0
 a0 := Tryz.isAgg0
 z0 := Tryz.sizeOf0
 v0 := Tryz.zeroValue0
 t3 := Tryz.underlying3
 a3 := Tryz.isAgg3
 z3 := Tryz.sizeOf3
 v3 := Tryz.zeroValue3
 t4 := Tryz.underlying4
 a4 := Tryz.isAgg4
 z4 := Tryz.sizeOf4
 v4 := Tryz.zeroValue4
 t5 := Tryz.underlying5
 a5 := Tryz.isAgg5
 z5 := Tryz.sizeOf5
 v5 := Tryz.zeroValue5
 t9 := Tryz.underlying9
 a9 := Tryz.isAgg9
 z9 := Tryz.sizeOf9
 v9 := Tryz.zeroValue9
 t26 := Tryz.underlying99
 a26 := Tryz.isAgg99
 z26 := Tryz.sizeOf99
 v26 := Tryz.zeroValue99
 t27 := Tryz.underlying99
 a27 := Tryz.isAgg99
 z27 := Tryz.sizeOf99
 v27 := Tryz.zeroValue99
 t29 := Tryz.underlying9
 a29 := Tryz.isAgg9
 z29 := Tryz.sizeOf9
 v29 := Tryz.zeroValue9
 t32 := Tryz.underlying120
 a32 := Tryz.isAgg120
 z32 := Tryz.sizeOf120
 v32 := Tryz.zeroValue120
 t35 := Tryz.underlying205
 a35 := Tryz.isAgg205
 z35 := Tryz.sizeOf205
 v35 := Tryz.zeroValue205
 t36 := Tryz.underlying206
 a36 := Tryz.isAgg206
 z36 := Tryz.sizeOf206
 v36 := Tryz.zeroValue206
 t41 := Tryz.underlying163
 a41 := Tryz.isAgg163
 z41 := Tryz.sizeOf163
 v41 := Tryz.zeroValue163
 t44 := Tryz.underlying112
 a44 := Tryz.isAgg112
 z44 := Tryz.sizeOf112
 v44 := Tryz.zeroValue112
 t46 := Tryz.underlying119
 a46 := Tryz.isAgg119
 z46 := Tryz.sizeOf119
 v46 := Tryz.zeroValue119
 t53 := Tryz.underlying225
 a53 := Tryz.isAgg225
 z53 := Tryz.sizeOf225
 v53 := Tryz.zeroValue225
 t57 := Tryz.underlying229
 a57 := Tryz.isAgg229
 z57 := Tryz.sizeOf229
 v57 := Tryz.zeroValue229
 t63 := Tryz.underlying234
 a63 := Tryz.isAgg234
 z63 := Tryz.sizeOf234
 v63 := Tryz.zeroValue234
 t64 := Tryz.underlying235
 a64 := Tryz.isAgg235
 z64 := Tryz.sizeOf235
 v64 := Tryz.zeroValue235 }
end Go.Proofs
namespace Go.Proofs
open Go.RowKit Go.Maps Go.Sort Go.Shelf
theorem Tryz.sorts75 (m : Nat) : AnyZ.SortsIn Tryz.prog Tryz.sorted75_ren Fence.wide m :=
 ⟨fun blk off cap ss W hH hblk hsz => callsIn_wide.2 (AnyM.slices_Sort_string Tryz.sort93 blk off cap ss W hH hblk hsz),
  fun p cap W => callsIn_wide.2 (AnyM.slices_Sort_string_none Tryz.sort93 p cap W)⟩
theorem Tryz.maps_Keys_76 (mb : Option Nat) (W : World) : CallsIn Fence.wide 5 Tryz.prog 76 #[.map mb] W fun e w' => e = .returned (.func (.func 94) #[] #[.pointer (some ⟨W.heap.size, 0, none⟩)]) ∧ w' = W.alloc (.cells #[.map mb] 60) :=
 AnyZ.keys_in Tryz.keys76 Fence.wide 5 trivial rfl mb W
theorem Tryz.slices_Sorted_keys_75_76 {H : Type} (b nn : Nat) (D0 : DataW H) (R : Value → Option (DataW H × List MemPlace)) (w : World) (hown : w.ownsMap Tryz.prog 9 R b nn D0) (hmax : Maps.size D0 ≤ maxLen) (hbytes : Maps.size D0 * 16 ≤ 140737488355328) :
  CallsIn Fence.wide 5 Tryz.prog 75 #[.func (.func 94) #[] #[.pointer (some ⟨w.heap.size, 0, none⟩)]] (w.alloc (.cells #[.map (some b)] 60)) fun e w' => ∃ (v : Value) (ss : List (List UInt8)), e = .returned v ∧ ss.Perm (strKeys D0) ∧
   w'.ownsRow (w.alloc (.cells #[.map (some b)] 60)).heap.size 9 1 v ss.length ((ss.mergeSort (fun x y => decide (x ≤ y))).map encStr) ∧ (v = .slice none 0 0 ↔ ss = []) ∧ Below (w.alloc (.cells #[.map (some b)] 60)).heap.size (w.alloc (.cells #[.map (some b)] 60)) w' := by
 have hbl := hown.lt
 have hseq : SeqGives Fence.wide 2 Tryz.prog 94 #[.pointer (some ⟨w.heap.size, 0, none⟩)] encStr (fun ss => ss.Perm (strKeys D0)) (Maps.size D0) (w.alloc (.cells #[.map (some b)] 60)) :=
  AnyZ.keys_gives (ρ := Tryz.keys76_ren) { Tryz.keys76 with } Fence.wide _ trivial rfl (by omega) w.heap.size b nn D0 _ (by simp) (by simp) (by
   obtain ⟨es, clock, hb, Ft, hs, hD⟩ := hown
   exact ⟨es, clock, (Below.heap_alloc _ _ b hbl).trans hb, Ft, hs, hD⟩)
 exact AnyZ.sorted_in Tryz.sorted75 Fence.wide 5 trivial trivial trivial trivial rfl (by omega) (Tryz.sorts75 _) (enters_of Tryz.func93 (by kernel_rfl) rfl) 94 #[.pointer (some ⟨w.heap.size, 0, none⟩)] trivial (enters_of Tryz.func94 (by kernel_rfl) rfl) _ _ hmax hbytes _ hseq
end Go.Proofs
namespace Go.Proofs.YtihaliffcobacaaGreatDoor
open Go.RowKit Go.Maps Go.Sort
theorem names_keys (fs : List DF) : strKeys (.map (fs.map ent)) = fs.map fun f => f.c.name := by
 show (fs.map ent).map (fun p => strOf p.1) = _
 rw [List.map_map]
 rfl
theorem cells_str (w : World) (S : BS) : ∀ ss : List (List UInt8), Cells EStr w S (ss.map Go.Proofs.encStr) (ss.map textOf)
 | [] => rfl
 | x :: r => ⟨[.string (textOf x)], r.map Go.Proofs.encStr, rfl, rfl, cells_str w S r⟩
theorem names_ok : NamesAll := by
 intro w B d cs s h
 obtain ⟨h0, m, fs, hd, rfl⟩ := h
 obtain ⟨c0, _, _, _⟩ := hd.cells
 have hl : fs.length ≤ 64 := by have := h0.many; rwa [List.length_map] at this
 have e0 : Maps.size (DataW.map (fs.map ent)) = fs.length := by simp [Maps.size]
 have hown := hd.map
 unfold MapIs at hown
 have hmax : Maps.size (DataW.map (fs.map ent)) ≤ maxLen := by rw [e0]; unfold maxLen; omega
 have hbytes : Maps.size (DataW.map (fs.map ent)) * 16 ≤ 140737488355328 := by rw [e0]; omega
 have HK := hid (Tryz.maps_Keys_76 (some m) w)
 have HS := hid (Tryz.slices_Sorted_keys_75_76 m fs.length _ fileElem w hown hmax hbytes)
 clear h0 hd hl e0 hown hmax hbytes
 refine (callsIn_wide (n := 6)).1 ?_
 have hfK : Fence.wide.fn 76 := trivial
 have hfS : Fence.wide.fn 75 := trivial
 refine callsIn_of_wp Tryz.func42 rfl trivial ?_ rfl
 simp only [Tryz.ntmps42, List.size_toArray, List.length_cons, List.length_nil, Nat.reduceAdd, Nat.reduceSub, Array.replicate_succ, Array.replicate_zero, List.push_toArray, List.append_toArray, List.nil_append, List.cons_append]
 gi_wp2_with (first
  | (gi_at_call 76; refine HK.out.mono ?_; rintro e w' ⟨rfl, rfl⟩)
  | (gi_at_call 75; refine HS.out.mono ?_; rintro e w' ⟨v, ss, rfl, hS, hrow, hnil, hb⟩))
 go_ret
 rw [names_keys] at hS
 have hE : Ext w w' := (((Keep.refl (fun _ => False) w).alloc _)).trans (Keep.of_below (F := fun _ => False) hb fun k h1 h2 => by omega) fun _ _ h => h
 have hms : (ss.mergeSort fun x y => decide (x ≤ y)) = ((fs.map DF.c).map DC.name).mergeSort fun x y => decide (x ≤ y) := by
  rw [List.map_map]
  exact mergeSort_of_perm hS
 refine ⟨v, rfl, ?_, hE⟩
 have hlen : ss.length = ((ss.mergeSort fun x y => decide (x ≤ y)).map textOf).length := by simp
 have hown : Own EStr w' (w.heap.size + 1) 9 (fun _ => False) v ((ss.mergeSort fun x y => decide (x ≤ y)).map textOf) := by
  refine Own.ofRow (cs := (ss.mergeSort fun x y => decide (x ≤ y)).map Go.Proofs.encStr) ?_ (cells_str _ _ _)
  rw [← hlen]
  show w'.ownsRow (w.heap.size + 1) 9 1 v ss.length _
  simpa using hrow
 have hsl := (hown.sl EStr.ok).more (S' := fun q => w.heap.size ≤ q) EStr.ok fun k _ h => by
  rcases h with h | h
  ·exact h.elim
  ·have := (hown.lt h).1; omega
 unfold namesC
 rw [← hms]
 exact hsl
end Go.Proofs.YtihaliffcobacaaGreatDoor
namespace Go.Proofs.YtihaliffcobacaaGreatDoor
open Go.RowKit
theorem eql_prd (w : World) (p : Option Addr) : (Go.binOp .eql 50 (.pointer p) (.pointer none)).run Tryz.prog w = .ok (.bool p.isNone) w := run_eql_pointer_nil w _ p (by kernel_rfl)
theorem twin_new {w0 w1 w2 w3 : World} {d r : Nat} {s : DSt} (h0 : Ext w0 w1) (hd : DiskIs w2 (fun k => w1.heap.size ≤ k ∧ k < w2.heap.size) d [] s) (h1 : Ext w1 w2) (hr : RdIs w3 (fun k => w2.heap.size ≤ k ∧ k < w3.heap.size) r [] s) (h2 : Ext w2 w3) : Twin w0 w3 (fun k => w1.heap.size ≤ k ∧ k < w2.heap.size) (fun k => w2.heap.size ≤ k ∧ k < w3.heap.size) d r [] s := by
 have s0 := h0.size
 have s1 := h1.size
 have s2 := h2.size
 exact ⟨⟨hd.ext h2, fun k hk => ⟨by omega, by omega⟩, (h0.ext h1).ext h2⟩, hr, fun k hk => ⟨by omega, by omega⟩, ⟨List.Pairwise.nil, fun c hc => by cases hc⟩, fun k ha hb => by omega⟩
theorem P2.twin {w0 W wz : World} {B1 B2 : BS} {d r : Nat} {cs cs' : List DC} {st S' : DSt} (hT : Twin w0 W B1 B2 d r cs st) (hC : Keep (fun k => B1 k ∨ B2 k) W wz) (h : P2 W B1 B2 d r cs' S' wz) (hg : GoodC cs') : ∃ C1 C2, Twin w0 wz C1 C2 d r cs' S' := by
 obtain ⟨C1, C2, hd, hr, hb2, hap⟩ := h
 have hsz := hC.size
 have h0 := hT.disk.ext.size
 exact ⟨C1, C2, ⟨hd.1, fun k hk => ⟨by rcases (hd.2 k hk).1 with h | h; exact (hT.disk.low k h).1; omega, (hd.2 k hk).2⟩, hT.disk.ext.trans hC fun k hk hb => by rcases hb with hb | hb; have := (hT.disk.low k hb).1; omega; have := (hT.low k hb).1; omega⟩,
   hr, fun k hk => ⟨by rcases (hb2 k hk).1 with h | h; exact (hT.low k h).1; omega, (hb2 k hk).2⟩, hg, hap⟩
def DoesAt (w0 wr : World) (d r : Nat) (nm : ByteArray) : Prop := ∃ (B1 B2 : BS) (cs : List DC) (st : DSt) (ss : List Sh), Twin w0 wr B1 B2 d r cs st ∧ FileIs nm cs ss ∧ ∀ y ∈ ss, GoodW y
theorem DoesAt.more {w0 w w' : World} {d r : Nat} {nm : ByteArray} (h : DoesAt w0 w d r nm) (hE : Ext w w') : DoesAt w0 w' d r nm := by
 obtain ⟨B1, B2, cs, st, ss, h1, h2⟩ := h
 exact ⟨B1, B2, cs, st, ss, h1.more hE, h2⟩
theorem DoesAt.ext {w0 w : World} {d r : Nat} {nm : ByteArray} (h : DoesAt w0 w d r nm) : Ext w0 w := by
 obtain ⟨B1, B2, cs, st, ss, h1, h2⟩ := h
 exact h1.disk.ext
set_option maxRecDepth 100000 in
theorem sdoes_walk (room : Int) (hrm : (Lit.int .u16 room).wf = true) (nm : ByteArray) (hnm : nm.size ≤ 140737488355328) (rs : List Rs) (A : Option Addr) (c : Nat) (halt : Int) (hhl : (Lit.int .u8 halt).wf = true) (hq : ∀ r ∈ rs, RsF r) (w : World) (hva : ValAny w) (h : Sl ERs w (fun k => k < w.heap.size) (.slice A rs.length c) rs) :
  Calls Tryz.prog 5 #[.int .u16 room, .string nm, .slice A rs.length c, .int .u8 halt] w fun e w' => e = .returned (.bool true) ∧ Ext w w' := by
 have hpe := eql_pdsk
 have hpr := eql_prd
 have hrm0 : 0 ≤ room ∧ room ≤ 65535 := by simp [Lit.wf, IntKind.min, IntKind.max, IntKind.signed, IntKind.bits] at hrm; omega
 have hhl0 : 0 ≤ halt ∧ halt ≤ 255 := by simp [Lit.wf, IntKind.min, IntKind.max, IntKind.signed, IntKind.bits] at hhl; omega
 have hwm : IntKind.i64.wrap room = room := by rw [IntKind.wrap_i64]; omega
 have hwh : IntKind.i64.wrap halt = halt := by rw [IntKind.wrap_i64]; omega
 have HVA := hid hva
 have HQ := hid hq
 have HV := hid h
 obtain ⟨n, hn⟩ : ∃ n, rs.length = n := ⟨_, rfl⟩
 obtain ⟨A', c', e, hlc, hcm⟩ := h.shape
 injection e with e1 _ e3
 subst e1 e3
 have HN := hid hn
 unfold maxLen at hcm
 rw [hn] at HV hlc ⊢
 clear hva hq h hn hrm hhl
 go_enter Tryz.func5, Tryz.ntmps5
 go_wp2_with fail
 have hhv := heavy15_len w _ A c rs (HN.out ▸ HV.out)
 rw [HN.out] at hhv
 refine hhv.mono ?_
 rintro e w1 ⟨⟨b, rfl, hb⟩, rfl⟩
 clear hhv hb
 by_cases hgo : b = true ∨ (60 : Int) < nm.size
 ·have hgo2 : (b || decide ((60 : Int) < nm.size)) = true := by simpa using hgo
  rcases hgo with rfl | h60
  ·clear hgo2
   go_wp2_with fail
   refine (known15_ok w1 HVA.out w1 (Keep.refl _ _)).mono ?_
   rintro e w2 ⟨rfl, hE⟩
   have HE2 := hid hE
   clear hE
   go_wp2
   go_ret
   exact ⟨rfl, HE2.out⟩
  ·cases b <;>
   ·clear hgo2
    go_wp2_with fail
    refine (known15_ok w1 HVA.out w1 (Keep.refl _ _)).mono ?_
    rintro e w2 ⟨rfl, hE⟩
    have HE2 := hid hE
    clear hE
    go_wp2
    go_ret
    exact ⟨rfl, HE2.out⟩
 obtain rfl : b = false := by cases b <;> simp_all
 have h60 : ¬ (60 : Int) < nm.size := fun h => hgo (.inr h)
 clear hgo
 go_wp2_with fail
 refine (known15_ok w1 HVA.out w1 (Keep.refl _ _)).mono ?_
 rintro e w2 ⟨rfl, hE2⟩
 have HE2 := hid hE2
 clear hE2
 go_wp2_with fail
 refine (disk_new w2 room).mono ?_
 intro e w3 h3
 unfold NewIs at h3
 rw [if_pos (by omega)] at h3
 obtain ⟨d, rfl, _, hd, hE3⟩ := h3
 have HD := hid (And.intro hd hE3)
 clear hd hE3
 go_wp2_with fail
 refine (ref_new w3 room).mono ?_
 intro e w4 h4
 unfold RNewIs at h4
 rw [if_pos (by omega)] at h4
 obtain ⟨r, rfl, hr, hE4⟩ := h4
 have HT := hid (twin_new HE2.out HD.out.1 HD.out.2 hr hE4)
 clear hr hE4 HD HE2
 go_wp2_with fail
 refine (disk_halt w4 _ d _ _ (halt - 1) (by simp [Lit.wf, IntKind.min, IntKind.max, IntKind.signed, IntKind.bits]; omega) HT.out.disk.is).mono ?_
 rintro e w5 ⟨rfl, hd, hk⟩
 have HD5 := hid (And.intro hd hk)
 clear hd hk
 go_wp2_with fail
 refine (ref_halt w5 _ r _ _ (halt - 1) (HT.out.mid HD5.out.2)).mono ?_
 rintro e w6 ⟨rfl, hr, hk⟩
 have HAT := hid (show DoesAt w1 w6 d r nm from ⟨_, _, _, _, [], HT.out.two HD5.out.2 (HD5.out.1.more fun k _ h => .inl h) hk hr.moreB HT.out.good, .inl ⟨rfl, rfl⟩, fun y hy => by simp at hy⟩)
 clear hr hk HD5 HT
 go_wp2_with fail
 go_loopw [11, 12, 13, 14, 15, 16] (fun i _ _ _ _ _ wr => ∃ (j : Nat), i = .int .i64 j ∧ j ≤ n ∧ DoesAt w1 wr d r nm) (fun i _ _ _ _ _ _ => n - (intOf i).toNat)
 case atStart => exact ⟨0, rfl, by omega, HAT.out⟩
 case round =>
  clear HAT
  obtain ⟨j, rfl, hj, hat⟩ := hrel
  have HAT := hid hat
  clear hat
  by_cases hlt : j < n
  ·obtain ⟨b2, o2, cc, rfl, hSb, _, hr2, hc2⟩ := (HV.out.ext ERs.ok HAT.out.ext).at_ ERs.ok (k := j) (by rw [HN.out]; exact hlt)
   obtain ⟨At, ct, rfl, _, hts⟩ := ERs_cells hr2
   have t0 := hc2 0 _ rfl
   have t1 := hc2 1 _ rfl
   have t2 := hc2 2 _ rfl
   have t3 := hc2 3 _ rfl
   have e4 : ERs.size = 4 := rfl
   simp only [e4, Nat.add_zero] at t0 t1 t2 t3
   have hF : RsF (rs[j]'(by rw [HN.out]; exact hlt)) := HQ.out _ (List.getElem_mem _)
   generalize rs[j]'(by rw [HN.out]; exact hlt) = rc at *
   have hX : (j : Int) < n := by omega
   have HF := hid hF
   have HTS := hid hts
   clear hc2 e4 hr2 hts hF
   go_wp2_with fail
   refine (shot_any rc HF.out wr _ At ct HTS.out).mono ?_
   rintro e w5 ⟨u, s, rfl, hu, ⟨-, -, hwi, hn64⟩, hE5⟩
   obtain ⟨A4, c4, A5, c5, rfl, hva⟩ := hu.parts
   obtain ⟨W, hW⟩ : ∃ W, w5.alloc (.cells #[.int .i64 s.n, .bool s.there, U8 s.v.kind, .int .i64 s.v.n, .string s.v.s, .slice A4 s.v.l.length c4, .slice A5 s.v.o.length c5] TSHOT) = W := ⟨_, rfl⟩
   have hE6 : Ext w5 W := by rw [← hW]; exact (Keep.refl _ _).alloc _
   have hb12 : Blk W w5.heap.size TSHOT #[.int .i64 s.n, .bool s.there, U8 s.v.kind, .int .i64 s.v.n, .string s.v.s, .slice A4 s.v.l.length c4, .slice A5 s.v.o.length c5] := by rw [← hW]; exact Blk.new _ _ _
   obtain ⟨B1, B2, cs, st, ss, hT0, hfl, hgd⟩ := HAT.out
   have hlw1 : ∀ k, B1 k → k < wr.heap.size := fun k hk => (hT0.disk.low k hk).2
   have hlw2 : ∀ k, B2 k → k < wr.heap.size := fun k hk => (hT0.low k hk).2
   have hsz5 := hE5.size
   have hsz6 := hE6.size
   have HT := hid ((hT0.more hE5).more hE6)
   have HQC := hid (fun w' (hC : Keep (fun k => B1 k ∨ B2 k) W w') => blk7s (hb12.keep hC fun h => by rcases h with h | h; have := hlw1 _ h; omega; have := hlw2 _ h; omega))
   have HVD := hid (fun w' (hC : Keep (fun k => B1 k ∨ B2 k) W w') => (hva.ext hE6).keep hC fun k hk h => by rcases h with h | h; have := hlw1 _ h; have := hk.1; omega; have := hlw2 _ h; have := hk.1; omega)
   have HLT1 := hid (show ∀ k, B1 k → k < W.heap.size from fun k hk => by have := hlw1 k hk; omega)
   have HLT2 := hid (show ∀ k, B2 k → k < W.heap.size from fun k hk => by have := hlw2 k hk; omega)
   have HAP := hid (show ∀ k, B1 k → ¬ B2 k from hT0.apart)
   have HWI := hid hwi
   obtain ⟨ss', hfl', hgd'⟩ := save_file (s := st) hfl hgd hn64 hwi
   obtain ⟨hcd0, hcd1⟩ := save_code cs st nm s
   have hgc : GoodC (saveR cs st nm s).2.1 := save_good hT0.good
   obtain ⟨code, hcode⟩ : ∃ code, (saveR cs st nm s).1 = code := ⟨_, rfl⟩
   obtain ⟨cs', hx⟩ : ∃ cs', (saveR cs st nm s).2.1 = cs' := ⟨_, rfl⟩
   obtain ⟨S', hS'⟩ : ∃ S', (saveR cs st nm s).2.2 = S' := ⟨_, rfl⟩
   rw [hcode] at hcd0 hcd1
   rw [hx] at hfl' hgc
   have hwc : IntKind.i64.wrap code = code := by rw [IntKind.wrap_i64]; omega
   have HC0 := hid hcode
   have HX0 := hid hx
   have HS' := hid hS'
   have HFL := hid hfl'
   have HGD := hid hgd'
   have HGC := hid hgc
   have HW := hid hW
   clear hu hva hE5 hE6 hb12 hT0 hlw1 hlw2 hwi hn64 hfl hgd hcode hx hS' hfl' hgd' hgc hW t0 t1 t2 t3 HAT hcd0 hcd1
   go_wp2_with fail
   change Code.wp _ _ _ _ (w5.alloc (.cells #[.int .i64 s.n, .bool s.there, U8 s.v.kind, .int .i64 s.v.n, .string s.v.s, .slice A4 s.v.l.length c4, .slice A5 s.v.o.length c5] TSHOT))
   rw [HW.out]
   refine M.wp_region_once [0] [1, 2, 3, 4, 5, 6, 7, 8, 9, 10, 11, 12, 13, 14, 15, 16, 17, 18, 19, 20] [21] (M.specOf [(3, fun v w' => v = .int .u16 code ∧ ∃ C1, P1 W B1 d cs' S' C1 w'), (14, fun v w' => v = .int .i64 code ∧ P2 W B1 B2 d r cs' S' w' ∧ W.heap.size ≤ w'.heap.size), (19, fun v w' => v = .int .i64 1)])
    (fun w' => Keep (fun k => B1 k ∨ B2 k) W w') (fun i w1 w' => Keep (M.effOf [(3, B1), (14, B2)] i) w1 w' ∧ (i = 3 → W.heap.size ≤ w1.heap.size → P2 W B1 B2 d r cs' S' w1 → P2 W B1 B2 d r cs' S' w')) (fun i w' => (i = 3 → DiskIs w' B1 d cs st) ∧ (i = 14 → RdIs w' B2 r cs st))
    ?_ (fun i w1 w' hk he => M.stableC_keep (Fs := M.effOf [(3, B1), (14, B2)]) (fun i k h => by obtain ⟨x, hx, _, h⟩ := h; rcases List.mem_cons.1 hx with rfl | hx; exact .inl h; rcases List.mem_cons.1 hx with rfl | hx; exact .inr h; cases hx) _ i w1 w' hk he.1) ?_ (by kernel_rfl) (by kernel_rfl) (Keep.drew (Keep.refl _ _)) ?_ ?_
   ·refine M.stable_cons (fun j hj v w w' h he => ⟨h.1, ?_⟩) (M.stable_cons (fun j hj v w w' h he => ⟨h.1, ?_, Nat.le_trans h.2.2 he.1.size⟩) (M.stable_cons (fun j hj v w w' h he => h) M.stable_nil))
    ·obtain ⟨_, C1, h⟩ := h
     refine ⟨C1, h.keep he.1 fun k hf => ?_⟩
     rcases eff_two hf with ⟨e, _⟩ | ⟨_, hk⟩
     ·exact absurd e hj
     ·exact ⟨HLT2.out k hk, fun h1 => HAP.out k h1 hk⟩
    ·by_cases e5 : j = 3
     ·exact he.2 e5 h.2.2 h.2.1
     ·refine h.2.1.keep he.1 fun k hf => ?_
      rcases eff_two hf with ⟨e, _⟩ | ⟨e, _⟩
      ·exact e5 e
      ·exact hj e
   ·intro i j hj w w' hu he
    refine ⟨fun e => (hu.1 e).keep he.1 fun k hb hf => ?_, fun e => (hu.2 e).keep he.1 fun k hb hf => ?_⟩
    ·rcases eff_two hf with ⟨e2, _⟩ | ⟨_, hk⟩
     ·exact hj (e2.trans e.symm)
     ·exact HAP.out k hb hk
    ·rcases eff_two hf with ⟨_, hk⟩ | ⟨e2, _⟩
     ·exact HAP.out k hk hb
     ·exact hj (e2.trans e.symm)
   ·intro k _
    exact ⟨fun _ => HT.out.disk.is.keep ((Keep.refl (fun _ => False) W).drew) fun _ _ x => x, fun _ => HT.out.ref.keep ((Keep.refl (fun _ => False) W).drew) fun _ _ x => x⟩
   iterate 1
    (try simp only [Act.put, sqa, sqb, sqc])
    refine M.pure_run rfl rfl ?_
    apply Exists.intro
    refine ⟨fun w' => ?_, ?_⟩
    ·go_simp
     rfl
   refine M.pure_nil ?_
   iterate 2
    (try simp only [Act.put, sqa, sqb, sqc])
    refine M.u_run rfl rfl rfl ?_
    apply Exists.intro
    refine ⟨fun w' hC hU hK => ?_, ?_⟩
    ·obtain ⟨q0, q1, q2, q3, q4, q5, q6⟩ := HQC.out w' hC
     go_simp
     rfl
   (try simp only [Act.put, sqa, sqb, sqc])
   refine M.u_eff rfl rfl rfl (fun w' hC hU hK => ?_) (fun v3 hv3 => ?_)
   ·unfold M.growAt
    go_simp
    refine M.grow_call ((save_ok w1 HVA.out w' B1 d cs st nm s HWI.out (HT.out.disk.ext.trans hC fun k hk hb => by rcases hb with hb | hb; have := (HT.out.disk.low k hb).1; omega; have := (HT.out.low k hb).1; omega) (hU.1 rfl) hnm _ _ ⟨_, _, _, _, _, rfl, HVD.out w' hC⟩).mono ?_)
    rintro e w'' ⟨rfl, h1, h2⟩
    have hsz := hC.size
    have hd : DiskIs w'' (moreB B1 w' w'') d cs' S' := by rw [← HX0.out, ← HS'.out]; exact h1
    have hb : ∀ k, moreB B1 w' w'' k → (B1 k ∨ W.heap.size ≤ k) ∧ k < w''.heap.size := fun k hk => by
     have := h2.size
     rcases hk with hk | hk
     ·exact ⟨.inl hk, by have := HLT1.out k hk; omega⟩
     ·exact ⟨.inr (by omega), hk.2⟩
    exact ⟨_, rfl, ⟨h2.mono (fun k _ hk => ⟨_, List.mem_cons_self, rfl, hk⟩), fun hs hp => P2.one (cs := cs') (s0 := S') hp hs HLT1.out HAP.out h2 hd⟩, by rw [HC0.out], _, hd, hb⟩
   obtain ⟨_, _, rfl, _⟩ := hv3
   iterate 10
    (try simp only [Act.put, sqa, sqb, sqc])
    refine M.u_run rfl rfl rfl ?_
    apply Exists.intro
    refine ⟨fun w' hC hU hK => ?_, ?_⟩
    ·obtain ⟨q0, q1, q2, q3, q4, q5, q6⟩ := HQC.out w' hC
     go_simp
     rfl
   (try simp only [Act.put, sqa, sqb, sqc])
   refine M.u_eff rfl rfl rfl (fun w' hC hU hK => ?_) (fun v14 hv14 => ?_)
   ·have h5 := hK.get (i := 3) List.mem_cons_self (by kernel_rfl)
    obtain ⟨_, C1, h5⟩ := h5
    unfold M.growAt
    go_simp
    have hsz := hC.size
    refine M.grow_call ((rsave_ok w1 HVA.out w' B2 r cs st nm s HWI.out (HT.out.disk.ext.trans hC fun k hk hb => by rcases hb with hb | hb; have := (HT.out.disk.low k hb).1; omega; have := (HT.out.low k hb).1; omega) (hU.2 rfl) HT.out.disk.is.1 HT.out.good (fun k hk => by have := HLT2.out k hk; omega) hnm _ _ ⟨_, _, _, _, _, rfl, HVD.out w' hC⟩).mono ?_)
    rintro e w'' ⟨rfl, h1, h2⟩
    exact ⟨_, rfl, h2.mono (fun k _ hk => ⟨_, List.mem_cons_of_mem _ List.mem_cons_self, rfl, hk⟩), by rw [HC0.out], h5.two hsz HLT2.out HAP.out h2 (by rw [← HX0.out, ← HS'.out]; exact h1), Nat.le_trans hsz h2.size⟩
   obtain ⟨_, _, rfl, _⟩ := hv14
   iterate 4
    (try simp only [Act.put, sqa, sqb, sqc])
    refine M.u_run rfl rfl rfl ?_
    apply Exists.intro
    refine ⟨fun w' hC hU hK => ?_, ?_⟩
    ·go_simp
     rfl
   (try simp only [Act.put, sqa, sqb, sqc])
   refine M.u_eff rfl rfl rfl (fun w' hC hU hK => ?_) (fun v19 hv19 => ?_)
   ·have h14 := hK.get (i := 14) List.mem_cons_self (by kernel_rfl)
    obtain ⟨C1, C2, hTT⟩ := P2.twin HT.out hC h14.2.1 HGC.out
    unfold M.growAt
    go_simp
    refine M.grow_call ((same13_x names_ok w1 w' C1 C2 d r cs' S' hTT).mono ?_)
    rintro e w'' ⟨rfl, h1⟩
    exact ⟨_, rfl, h1.mono (fun k _ x => x.elim), rfl⟩
   obtain ⟨_, _, rfl⟩ := hv19
   iterate 1
    (try simp only [Act.put, sqa, sqb, sqc])
    refine M.u_run rfl rfl rfl ?_
    apply Exists.intro
    refine ⟨fun w' hC hU hK => ?_, ?_⟩
    ·go_simp
     rfl
   refine M.u_nil fun wz hC hK => ?_
   have hP : P2 W B1 B2 d r cs' S' wz := (hK (14, _) (List.mem_cons_of_mem _ List.mem_cons_self)).2.1
   obtain ⟨C1, C2, hTT⟩ := P2.twin HT.out hC hP HGC.out
   have HTT := hid hTT
   clear hC hK hP hTT HT HQC HVD HLT1 HLT2 HAP HC0 HX0 HS' HW HWI HTS HF
   change wpList _ _ _ (_ :: []) _ _
   (try simp only [Act.put, sqa, sqb, sqc])
   go_wp2_with fail
   refine NoPanic.normal ?_
   have HLEN := hid (show (readR cs' (byt (fileT nm))).2.length ≤ 2000000 from by have h1 := HFL.out.len; have h2 := HTT.out.disk.is.1.used; have h3 := HTT.out.disk.is.1.room; omega)
   have HSCN := hid (HFL.out.scan HGD.out)
   have HUS := hid (Nat.le_trans HTT.out.disk.is.1.used HTT.out.disk.is.1.room)
   rcases List.eq_nil_or_concat ss' with rfl | ⟨ss0, y, rfl⟩
   ·go_wp2_with fail
    refine (load_no w1 HVA.out wz HTT.out.disk.ext C1 d cs' S' nm HTT.out.disk.is hnm HLEN.out HSCN.out).mono ?_
    rintro e w7 ⟨rfl, hE7⟩
    obtain ⟨W7, hW7⟩ : ∃ W7, w7.alloc (.cells #[.int .i64 0, .bool false, .int .u8 0, .int .i64 0, .string ⟨#[]⟩, .slice none 0 0, .slice none 0 0] TSHOT) = W7 := ⟨_, rfl⟩
    have hE8 : Ext w7 W7 := by rw [← hW7]; exact (Keep.refl _ _).alloc _
    have hb13 : Blk W7 w7.heap.size TSHOT #[.int .i64 0, .bool false, .int .u8 0, .int .i64 0, .string ⟨#[]⟩, .slice none 0 0, .slice none 0 0] := by rw [← hW7]; exact Blk.new _ _ _
    have HT7 := hid ((HTT.out.more hE7).more hE8)
    have HB13 := hid hb13
    have HW7 := hid hW7
    clear hE7 hE8 hb13 hW7 HTT
    go_wp2_with fail
    change Calls _ _ _ (w7.alloc (.cells #[.int .i64 0, .bool false, .int .u8 0, .int .i64 0, .string ⟨#[]⟩, .slice none 0 0, .slice none 0 0] TSHOT)) _
    rw [HW7.out]
    refine (rload_no w1 HVA.out W7 HT7.out.disk.ext C2 r cs' S' nm HT7.out.ref HUS.out hnm HLEN.out HSCN.out).mono ?_
    rintro e w8 ⟨rfl, hE8⟩
    have hb13 := HB13.out.keep hE8 id
    obtain ⟨x0, x1, x2, x3, x4, x5, x6⟩ : (∀ o, (w8.alloc o).cell? ⟨w7.heap.size, 0, none⟩ = some (.int .i64 0)) ∧ (∀ o, (w8.alloc o).cell? ⟨w7.heap.size, 1, none⟩ = some (.bool false)) ∧ (∀ o, (w8.alloc o).cell? ⟨w7.heap.size, 2, none⟩ = some (.int .u8 0)) ∧ (∀ o, (w8.alloc o).cell? ⟨w7.heap.size, 3, none⟩ = some (.int .i64 0)) ∧ (∀ o, (w8.alloc o).cell? ⟨w7.heap.size, 4, none⟩ = some (.string ⟨#[]⟩)) ∧ (∀ o, (w8.alloc o).cell? ⟨w7.heap.size, 5, none⟩ = some (.slice none 0 0)) ∧ (∀ o, (w8.alloc o).cell? ⟨w7.heap.size, 6, none⟩ = some (.slice none 0 0)) :=
     ⟨fun o => (hb13.alloc o).cell 0, fun o => (hb13.alloc o).cell 1, fun o => (hb13.alloc o).cell 2, fun o => (hb13.alloc o).cell 3, fun o => (hb13.alloc o).cell 4, fun o => (hb13.alloc o).cell 5, fun o => (hb13.alloc o).cell 6⟩
    have HT8 := hid (fun o => (HT7.out.more hE8).more ((Keep.refl (fun _ => False) w8).alloc o))
    clear hE8 hb13 HB13 HT7 HW7
    go_wp2_with fail
    refine (rsame_any zV.size zV zV (Nat.le_refl _) true ⟨fun _ => rfl, fun _ => rfl⟩ _ _ (fun _ => False) (fun _ => False) _ zV_at zV_at).mono ?_
    rintro e w9 ⟨rfl, hE9⟩
    have HREL := hid (show DoesAt w1 w9 d r nm from ⟨C1, C2, cs', S', [], (HT8.out _).more hE9, HFL.out, HGD.out⟩)
    clear hE9 HT8 x0 x1 x2 x3 x4 x5 x6
    go_wp2
    exact ⟨⟨j + 1, by go_num, by omega, HREL.out⟩, by simp [intOf]; omega⟩
   ·have hgy : GoodW y := HGD.out y (by simp)
    have HSC2 := hid (show (scanL (readR cs' (byt (fileT nm))).2).1 = ss0.map shB ++ [shB y] from by rw [HSCN.out]; simp)
    have HGY := hid hgy
    clear hgy HSCN
    go_wp2_with fail
    refine (load_some w1 HVA.out wz HTT.out.disk.ext C1 d cs' S' nm HTT.out.disk.is hnm (ss0.map shB) y HGY.out.1 HGY.out.2 HLEN.out HSC2.out).mono ?_
    rintro e w7 ⟨u, rfl, hu, hE7⟩
    obtain ⟨A6, c6, A7, c7, rfl, hva⟩ := hu.parts
    obtain ⟨W7, hW7⟩ : ∃ W7, w7.alloc (.cells #[.int .i64 y.n, .bool y.there, U8 y.v.kind, .int .i64 y.v.n, .string y.v.s, .slice A6 y.v.l.length c6, .slice A7 y.v.o.length c7] TSHOT) = W7 := ⟨_, rfl⟩
    have hE8 : Ext w7 W7 := by rw [← hW7]; exact (Keep.refl _ _).alloc _
    have hb13 : Blk W7 w7.heap.size TSHOT #[.int .i64 y.n, .bool y.there, U8 y.v.kind, .int .i64 y.v.n, .string y.v.s, .slice A6 y.v.l.length c6, .slice A7 y.v.o.length c7] := by rw [← hW7]; exact Blk.new _ _ _
    have HT7 := hid ((HTT.out.more hE7).more hE8)
    have HB13 := hid hb13
    have HW7 := hid hW7
    have HV7 := hid (hva.ext hE8)
    clear hu hva hE7 hE8 hb13 hW7 HTT
    go_wp2_with fail
    change Calls _ _ _ (w7.alloc (.cells #[.int .i64 y.n, .bool y.there, U8 y.v.kind, .int .i64 y.v.n, .string y.v.s, .slice A6 y.v.l.length c6, .slice A7 y.v.o.length c7] TSHOT)) _
    rw [HW7.out]
    refine (rload_some w1 HVA.out W7 HT7.out.disk.ext C2 r cs' S' nm HT7.out.ref HUS.out hnm (ss0.map shB) y HGY.out.1 HGY.out.2 HLEN.out HSC2.out).mono ?_
    rintro e w8 ⟨u, rfl, hu, hE8⟩
    obtain ⟨A8, c8, A9, c9, rfl, hva⟩ := hu.parts
    have hb13 := HB13.out.keep hE8 id
    obtain ⟨x0, x1, x2, x3, x4, x5, x6⟩ : (∀ o, (w8.alloc o).cell? ⟨w7.heap.size, 0, none⟩ = some (.int .i64 y.n)) ∧ (∀ o, (w8.alloc o).cell? ⟨w7.heap.size, 1, none⟩ = some (.bool y.there)) ∧ (∀ o, (w8.alloc o).cell? ⟨w7.heap.size, 2, none⟩ = some (U8 y.v.kind)) ∧ (∀ o, (w8.alloc o).cell? ⟨w7.heap.size, 3, none⟩ = some (.int .i64 y.v.n)) ∧ (∀ o, (w8.alloc o).cell? ⟨w7.heap.size, 4, none⟩ = some (.string y.v.s)) ∧ (∀ o, (w8.alloc o).cell? ⟨w7.heap.size, 5, none⟩ = some (.slice A6 y.v.l.length c6)) ∧ (∀ o, (w8.alloc o).cell? ⟨w7.heap.size, 6, none⟩ = some (.slice A7 y.v.o.length c7)) :=
     ⟨fun o => (hb13.alloc o).cell 0, fun o => (hb13.alloc o).cell 1, fun o => (hb13.alloc o).cell 2, fun o => (hb13.alloc o).cell 3, fun o => (hb13.alloc o).cell 4, fun o => (hb13.alloc o).cell 5, fun o => (hb13.alloc o).cell 6⟩
    have HT8 := hid (fun o => (HT7.out.more hE8).more ((Keep.refl (fun _ => False) w8).alloc o))
    have HV8 := hid (fun o => (HV7.out.ext hE8).ext ((Keep.refl (fun _ => False) w8).alloc o))
    have HV9 := hid (fun o => hva.ext ((Keep.refl (fun _ => False) w8).alloc o))
    clear hu hva hE8 hb13 HB13 HT7 HW7 HV7
    go_wp2_with fail
    refine (rsame_any y.v.size y.v y.v (Nat.le_refl _) true ⟨fun _ => rfl, fun _ => rfl⟩ _ _ _ _ _ (HV8.out _) (HV9.out _)).mono ?_
    rintro e w9 ⟨rfl, hE9⟩
    have HREL := hid (show DoesAt w1 w9 d r nm from ⟨C1, C2, cs', S', _, (HT8.out _).more hE9, HFL.out, HGD.out⟩)
    clear hE9 HT8 HV8 HV9 x0 x1 x2 x3 x4 x5 x6
    go_wp2
    exact ⟨⟨j + 1, by go_num, by omega, HREL.out⟩, by simp [intOf]; omega⟩
  ·obtain rfl : j = n := by omega
   have hX : ¬ (j : Int) < j := by omega
   have HEND := hid HAT.out.ext
   go_wp2
   go_ret
   exact ⟨rfl, HEND.out⟩
end Go.Proofs.YtihaliffcobacaaGreatDoor
namespace Go.Proofs.YtihaliffcobacaaGreatDoor
open Go.ChangeShapes Go.WideShapes Go.ChangeAt Go.RowKit Go.Deep
theorem does15_lift {Q0 : Prop} (room : Int) (nm : ByteArray) (lv : Value) (l : List Rs) (halt : Int) (w : World) (h0 : (Lit.int .u16 room).wf = true) (h1 : nm.size ≤ reachBytes) (h2 : Sl ERs w (fun k => k < w.heap.size) lv l) (q2 : Q0 ∧ ∀ r ∈ l, RsF r) (h3 : (Lit.int .u8 halt).wf = true) (hT : ValAny w) :
  Calls Tryz.prog 5 #[.int .u16 room, .string nm, lv, .int .u8 halt] w fun e w' => e = .returned (.bool true) ∧ Below w.heap.size w w' := by
 obtain ⟨A, c, rfl, _⟩ := h2.shape
 unfold reachBytes at h1
 exact (sdoes_walk room h0 nm (by omega) l A c halt h3 q2.2 w hT h2).mono fun e w' h => ⟨h.1, h.2.toBelow⟩
end Go.Proofs.YtihaliffcobacaaGreatDoor
