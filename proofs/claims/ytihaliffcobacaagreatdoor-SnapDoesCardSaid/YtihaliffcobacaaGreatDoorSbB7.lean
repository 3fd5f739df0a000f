/- PencB, OwnTwo, RefCopy, RefField, Cuts, LawWith: laid together. -/
import Derived.Test.YtihaliffcobacaaGreatDoorSbB5
import Derived.Test.YtihaliffcobacaaGreatDoorSbB6
import Derived.Test.YtihaliffcobacaaGreatDoorSbB2
import Derived.WalkKit
set_option linter.unusedSimpArgs false
set_option linter.unusedVariables false
set_option maxHeartbeats 25600000
set_option maxRecDepth 20000
namespace Go.Proofs.YtihaliffcobacaaGreatDoor
open Go.RowKit
set_option maxRecDepth 100000 in
theorem pvalue_any : ∀ (m : Nat) (x : V), x.size ≤ m → ∀ (W1 w : World) (b : Nat) (ob : Option Nat) (bs : List UInt8) (S : BS) (u : Value), WrAt TWP W1 w b ob bs → VAt w S u x → (∀ k, S k → k < W1.heap.size ∧ k ≠ b) → bs.length + (encV x).length ≤ 4000000000 →
  Calls Tryz.prog 80 #[.pointer (some ⟨b, 0, none⟩), u] w (WrIs TWP W1 w b ob (bs ++ encV x)) := by
 intro m
 induction m with
 | zero => intro x h; have := x.size_pos; omega
 | succ m ih =>
 intro x hsz W1 w b ob bs S u hwr hu hS hlen
 have hlen2 := V.size_eq x
 have HIH := hid ih
 have HLM := hid (fun (z : V) (hz : z ∈ x.l) => (by have := V.sizes_mem hz; omega : z.size ≤ m))
 have HOM := hid (fun (z : F) (hz : z ∈ x.o) => (by have := F.sizes_mem hz; omega : z.v.size ≤ m))
 have HS := hid hS
 rw [encV_tail] at hlen ⊢
 obtain ⟨l1, o1, rfl, h1, h2⟩ := hu
 obtain ⟨A1, c1, rfl, hc1, hm1⟩ := h1.shape
 obtain ⟨A2, c2, rfl, hc2, hm2⟩ := h2.shape
 unfold maxLen at hm1 hm2
 generalize x.kind = k at *
 generalize x.n = n at *
 generalize x.s = s at *
 generalize x.l = xs at *
 generalize x.o = xo at *
 have hb0 := Blk.new w TVAL #[U8 k, .int .i64 n, .string s, .slice A1 xs.length c1, .slice A2 xo.length c2]
 have hE : Ext w (w.alloc (.cells #[U8 k, .int .i64 n, .string s, .slice A1 xs.length c1, .slice A2 xo.length c2] TVAL)) := (Keep.refl _ _).alloc _
 have HNO := hid (show ¬ (w.heap.size = b ∨ ob = some w.heap.size) from fun h => by
  have := hwr.low
  rcases h with h | h
  ·omega
  ·have := (hwr.lt h).2; omega)
 have HSN := hid (show ∀ q, S q → ¬ (q = b ∨ ob = some q) from fun q hq h => by
  have := hS q hq
  rcases h with h | h
  ·exact this.2 h
  ·have := (hwr.lt h).1; omega)
 have HWR := hid (hwr.ext hE)
 have HB0 := hid hb0
 have HE := hid hE
 have H1 := hid (h1.ext EVal.ok hE)
 have H2 := hid (h2.ext EField.ok hE)
 have hlen : bs.length + (tailV k n s xs xo).length + 1 ≤ 4000000000 := by rw [List.length_cons] at hlen; omega
 have HL := hid hlen
 have HDN := hid (show bs ++ k :: tailV k n s xs xo = (bs ++ beN k.toNat 1) ++ tailV k n s xs xo from by
  have e : beN k.toNat 1 = [k] := by rw [beN, beN]; simp
  rw [e, List.append_assoc]; rfl)
 have HL2 := hid (show (bs ++ beN k.toNat 1).length + (tailV k n s xs xo).length ≤ 4000000000 from by rw [List.length_append, beN_len]; omega)
 have hkz : (k.toNat : Int) < 256 := by have := k.toNat_lt; omega
 have hun : IntKind.u64.wrap n = (u64 n : Int) := by simp only [IntKind.wrap, IntKind.bits, IntKind.signed, Bool.false_and, Bool.false_eq_true, if_false]; unfold u64; omega
 clear ih hlen2 hsz hS hlen hwr h1 h2 hb0 hE
 go_enter Tryz.func80, Tryz.ntmps80
 go_wp2_with fail
 generalize (w.alloc (.cells #[U8 k, .int .i64 n, .string s, .slice A1 xs.length c1, .slice A2 xo.length c2] TVAL)) = W0 at *
 refine (pu8_ok W1 b k.toNat k.toNat 1 (IntWalk.u64_in _ (by have := k.toNat_lt; omega)) (by omega) W0 ob bs HWR.out (by have := HL.out; omega)).mono ?_
 rintro e w1 ⟨rfl, o1, hw, hto⟩
 have hx := HB0.out.keep hto.1 HNO.out
 have x0 := hx.cell 0
 have x1 := hx.cell 1
 have x2 := hx.cell 2
 have x3 := hx.cell 3
 have x4 := hx.cell 4
 simp only [List.getElem?_toArray, List.getElem?_cons_succ, List.getElem?_cons_zero] at x0 x1 x2 x3 x4
 have HTO := hid hto
 have HW := hid hw
 have HB1 := hid hx
 generalize bs ++ beN k.toNat 1 = bz at *
 clear hw hto hx HWR HL
 have hfin : ∀ (w2 : World) (o2 : Option Nat) (t : List UInt8), t = tailV k n s xs xo → WrAt TWP W1 w2 b o2 (bz ++ t) → WTo b ob W0 o2 w2 → WrIs TWP W1 w b ob (bs ++ k :: tailV k n s xs xo) (.returned (.tuple #[])) w2 :=
  fun w2 o2 t ht h1 h2 => ⟨rfl, o2, by rw [HDN.out]; exact ht ▸ h1, (WTo.ext HE.out).trans h2⟩
 have HFIN := hid hfin
 clear hfin HDN
 by_cases hk1 : k = 1
 ·subst hk1
  have HT := hid (show beN (u64 n) 8 = tailV 1 n s xs xo from by unfold tailV; rw [if_pos (by decide)])
  rw [← HT.out, beN_len] at HL2
  go_wp2_with fail
  refine (pi64_ok W1 b n (u64 n) 8 (wrap_u64 n) (by omega) w1 o1 bz HW.out (by have := HL2.out; omega)).mono ?_
  rintro e w2 ⟨rfl, o2, hw2, hto2⟩
  have HR := hid (HFIN.out w2 o2 _ HT.out hw2 (HTO.out.trans hto2))
  clear hw2 hto2
  go_wp2
  go_end0
  exact HR.out
 by_cases hk2 : k = 2
 ·subst hk2
  have HT := hid (show beN (u64 n) 8 = tailV 2 n s xs xo from by unfold tailV; rw [if_pos (by decide)])
  rw [← HT.out, beN_len] at HL2
  go_wp2_with fail
  refine (pi64_ok W1 b n (u64 n) 8 (wrap_u64 n) (by omega) w1 o1 bz HW.out (by have := HL2.out; omega)).mono ?_
  rintro e w2 ⟨rfl, o2, hw2, hto2⟩
  have HR := hid (HFIN.out w2 o2 _ HT.out hw2 (HTO.out.trans hto2))
  clear hw2 hto2
  go_wp2
  go_end0
  exact HR.out
 by_cases hk3 : k = 3
 ·subst hk3
  have HT := hid (show encT s = tailV 3 n s xs xo from by unfold tailV; rw [if_neg (by decide), if_pos rfl])
  rw [← HT.out, encT_len] at HL2
  go_wp2_with fail
  refine (ptext_ok W1 b s (by have := HL2.out; omega) w1 o1 bz HW.out (by have := HL2.out; omega)).mono ?_
  rintro e w2 ⟨rfl, o2, hw2, hto2⟩
  have HR := hid (HFIN.out w2 o2 _ HT.out hw2 (HTO.out.trans hto2))
  clear hw2 hto2
  go_wp2
  go_end0
  exact HR.out
 by_cases hk4 : k = 4
 ·subst hk4
  have HT := hid (show beN xs.length 4 ++ encVs xs = tailV 4 n s xs xo from by unfold tailV; rw [if_neg (by decide), if_neg (by decide), if_pos rfl])
  rw [← HT.out, List.length_append, beN_len] at HL2
  have HXL := hid (show xs.length < 4294967296 from by have := encVs_len xs; have := HL2.out; omega)
  clear x1 x2 x4
  go_wp2_with fail
  refine (pint_ok W1 b xs.length xs.length 4 (IntWalk.u64_in _ (by have := HXL.out; omega)) (by omega) w1 o1 bz HW.out (by have := HL2.out; omega)).mono ?_
  rintro e w2 ⟨rfl, o2, hw2, hto2⟩
  have HT2 := hid (HTO.out.trans hto2)
  have HW2 := hid hw2
  have hx2 := HB0.out.keep HT2.out.1 HNO.out
  have x3' := hx2.cell 3
  simp only [List.getElem?_toArray, List.getElem?_cons_succ, List.getElem?_cons_zero] at x3'
  clear hw2 hto2 x0 x3 HTO HW hkz hx2
  go_wp2_with fail
  go_loopw [37] (fun i wr => ∃ (j : Nat) (o3 : Option Nat), j ≤ xs.length ∧ i = .int .i64 j ∧ WrAt TWP W1 wr b o3 ((bz ++ beN xs.length 4) ++ encVs (xs.take j)) ∧ WTo b ob W0 o3 wr) (fun i _ => xs.length - (intOf i).toNat)
  case atStart => exact ⟨0, o2, by omega, rfl, by rw [List.take_zero, encVs, List.append_nil]; exact HW2.out, HT2.out⟩
  case round =>
   obtain ⟨j, o3, hj, rfl, hwr, hto3⟩ := hrel
   have HWr := hid hwr
   have HTr := hid hto3
   have HLr := hid (H1.out.keep EVal.ok hto3.1 HSN.out)
   clear hwr hto3 x3'
   by_cases hlt : j < xs.length
   ·obtain ⟨b1, f1, d1, rfl, hb1, hs1, hr1, hc1'⟩ := HLr.out.at_ EVal.ok hlt
    obtain ⟨B1, n1, z1, B2, n2, z2, rfl, _, _, hva⟩ := EVal_cells hr1
    have p0 := hc1' 0 _ rfl
    have p1 := hc1' 1 _ rfl
    have p2 := hc1' 2 _ rfl
    have p3 := hc1' 3 _ rfl
    have p4 := hc1' 4 _ rfl
    have e5' : EVal.size = 5 := rfl
    simp only [e5', Nat.add_zero] at p0 p1 p2 p3 p4
    have HVA := hid hva
    have HXM := hid (HLM.out xs[j] (List.getElem_mem hlt))
    have HNX := hid (encVs_take hlt)
    have HLE := hid (encVs_le (l := xs) (j + 1))
    rw [HNX.out] at HLE
    have hjX : (j : Int) < xs.length := by omega
    clear hc1' hr1 hva e5' hs1 hb1
    generalize xs[j] = y at *
    go_wp2_with fail
    have hEa : ∀ o, Ext wr (wr.alloc o) := fun o => (Keep.refl _ _).alloc o
    refine (HIH.out y HXM.out W1 _ b o3 _ S _ (HWr.out.ext (hEa _)) (HVA.out.ext (hEa _)) HS.out (by have := HL2.out; have := HLE.out; simp only [List.length_append, beN_len] at this ⊢; omega)).mono ?_
    rintro e w4 ⟨rfl, o4, hw4, hto4⟩
    have HW4 := hid hw4
    have HT4 := hid (HTr.out.trans ((WTo.ext (hEa _)).trans hto4))
    clear hw4 hto4 p0 p1 p2 p3 p4 HVA HWr HTr HLr
    go_wp2_with fail
    exact ⟨⟨j + 1, o4, by omega, by go_num, by rw [HNX.out, ← List.append_assoc]; exact HW4.out, HT4.out⟩, by simp [intOf]; omega⟩
   ·obtain rfl : j = xs.length := by omega
    have HR := hid (HFIN.out wr o3 (beN xs.length 4 ++ encVs xs) HT.out (by have := HWr.out; rw [List.take_length, List.append_assoc] at this; exact this) HTr.out)
    clear HLr HWr HTr
    go_wp2
    go_end0
    exact HR.out
 by_cases hk5 : k = 5
 ·subst hk5
  have HT := hid (show beN xo.length 4 ++ encFs xo = tailV 5 n s xs xo from by unfold tailV; rw [if_neg (by decide), if_neg (by decide), if_neg (by decide), if_pos rfl])
  rw [← HT.out, List.length_append, beN_len] at HL2
  have HXL := hid (show xo.length < 4294967296 from by have := encFs_len xo; have := HL2.out; omega)
  clear x1 x2 x3
  go_wp2_with fail
  refine (pint_ok W1 b xo.length xo.length 4 (IntWalk.u64_in _ (by have := HXL.out; omega)) (by omega) w1 o1 bz HW.out (by have := HL2.out; omega)).mono ?_
  rintro e w2 ⟨rfl, o2, hw2, hto2⟩
  have HT2 := hid (HTO.out.trans hto2)
  have HW2 := hid hw2
  have hx2 := HB0.out.keep HT2.out.1 HNO.out
  have x4' := hx2.cell 4
  simp only [List.getElem?_toArray, List.getElem?_cons_succ, List.getElem?_cons_zero] at x4'
  clear hw2 hto2 x0 x4 HTO HW hkz hx2
  go_wp2_with fail
  go_loopw [55] (fun i wr => ∃ (j : Nat) (o3 : Option Nat), j ≤ xo.length ∧ i = .int .i64 j ∧ WrAt TWP W1 wr b o3 ((bz ++ beN xo.length 4) ++ encFs (xo.take j)) ∧ WTo b ob W0 o3 wr) (fun i _ => xo.length - (intOf i).toNat)
  case atStart => exact ⟨0, o2, by omega, rfl, by rw [List.take_zero, encFs, List.append_nil]; exact HW2.out, HT2.out⟩
  case round =>
   obtain ⟨j, o3, hj, rfl, hwr, hto3⟩ := hrel
   have HWr := hid hwr
   have HTr := hid hto3
   have HLr := hid (H2.out.keep EField.ok hto3.1 HSN.out)
   clear hwr hto3 x4'
   by_cases hlt : j < xo.length
   ·obtain ⟨b1, f1, d1, rfl, hb1, hs1, hr1, hc1'⟩ := HLr.out.at_ EField.ok hlt
    obtain ⟨lv1, ov1, rfl, ⟨D1, g1, rfl⟩, ⟨D2, g2, rfl⟩, hva⟩ := EField_cells hr1
    have p0 := hc1' 0 _ rfl
    have p1 := hc1' 1 _ rfl
    have p2 := hc1' 2 _ rfl
    have p3 := hc1' 3 _ rfl
    have p4 := hc1' 4 _ rfl
    have p5 := hc1' 5 _ rfl
    have e5' : EField.size = 6 := rfl
    simp only [e5', Nat.add_zero] at p0 p1 p2 p3 p4 p5
    have HVA := hid hva
    have HXM := hid (HOM.out xo[j] (List.getElem_mem hlt))
    have HNX := hid (encFs_take hlt)
    have HLE := hid (encFs_le (l := xo) (j + 1))
    rw [HNX.out, encF_eq] at HLE
    have HBB := hid (show bz.length + (4 + ((encFs (xo.take j)).length + ((4 + xo[j].key.size) + (encV xo[j].v).length))) ≤ 4000000000 from by
     have := HL2.out; have := HLE.out; simp only [List.length_append, encT_len] at this ⊢; omega)
    have HKEY := hid (show xo[j].key.size < 4294967296 from by have := HBB.out; omega)
    have hjX : (j : Int) < xo.length := by omega
    clear hc1' hr1 hva e5' hs1 hb1
    generalize xo[j] = y at *
    go_wp2_with fail
    obtain ⟨W5, hW5⟩ : ∃ W5, wr.alloc (.cells #[.string y.key, U8 y.v.kind, .int .i64 y.v.n, .string y.v.s, .slice D1 y.v.l.length g1, .slice D2 y.v.o.length g2] TFIELD) = W5 := ⟨_, rfl⟩
    have hEa : Ext wr W5 := by rw [← hW5]; exact (Keep.refl _ _).alloc _
    have HBX := hid (show Blk W5 wr.heap.size TFIELD #[.string y.key, U8 y.v.kind, .int .i64 y.v.n, .string y.v.s, .slice D1 y.v.l.length g1, .slice D2 y.v.o.length g2] from by rw [← hW5]; exact Blk.new _ _ _)
    have HNB := hid (show ¬ (wr.heap.size = b ∨ o3 = some wr.heap.size) from fun h => by
     have := HWr.out.low
     rcases h with h | h
     ·omega
     ·have := (HWr.out.lt h).2; omega)
    have HW5 := hid (HWr.out.ext hEa)
    have HT5 := hid (HTr.out.trans (WTo.ext hEa))
    have HV5 := hid (HVA.out.ext hEa)
    clear hEa
    show Calls _ _ _ (wr.alloc (.cells #[.string y.key, U8 y.v.kind, .int .i64 y.v.n, .string y.v.s, .slice D1 y.v.l.length g1, .slice D2 y.v.o.length g2] TFIELD)) _
    rw [hW5]
    clear hW5 p0 p1 p2 p3 p4 p5
    refine (ptext_ok W1 b y.key HKEY.out W5 o3 _ HW5.out (by have := HBB.out; simp only [List.length_append, beN_len]; omega)).mono ?_
    rintro e w3 ⟨rfl, o4, hw4, hto4⟩
    have hx := HBX.out.keep hto4.1 HNB.out
    have p1 := hx.cell 1
    have p2 := hx.cell 2
    have p3 := hx.cell 3
    have p4 := hx.cell 4
    have p5 := hx.cell 5
    simp only [List.getElem?_toArray, List.getElem?_cons_succ, List.getElem?_cons_zero] at p1 p2 p3 p4 p5
    have HT4 := hid (HT5.out.trans hto4)
    have HV4 := hid (HW5.out.keep hto4 HV5.out HS.out)
    have HW4 := hid hw4
    clear hx hw4 hto4 HVA HWr HTr HLr HV5 HW5 HT5 HBX
    go_wp2_with fail
    refine (HIH.out y.v HXM.out W1 w3 b o4 _ S _ HW4.out HV4.out HS.out (by have := HBB.out; simp only [List.length_append, beN_len, encT_len]; omega)).mono ?_
    rintro e w5 ⟨rfl, o5, hw5, hto5⟩
    have HW5 := hid hw5
    have HT5 := hid (HT4.out.trans hto5)
    clear hw5 hto5 p1 p2 p3 p4 p5 HV4 HW4 HT4
    go_wp2_with fail
    exact ⟨⟨j + 1, o5, by omega, by go_num, by rw [HNX.out, encF_eq, ← List.append_assoc, ← List.append_assoc]; exact HW5.out, HT5.out⟩, by simp [intOf]; omega⟩
   ·obtain rfl : j = xo.length := by omega
    have HR := hid (HFIN.out wr o3 (beN xo.length 4 ++ encFs xo) HT.out (by have := HWr.out; rw [List.take_length, List.append_assoc] at this; exact this) HTr.out)
    clear HLr HWr HTr
    go_wp2
    go_end0
    exact HR.out
 have HR := hid (HFIN.out w1 o1 [] (by unfold tailV; rw [if_neg (by rintro (h | h) <;> contradiction), if_neg hk3, if_neg hk4, if_neg hk5]) (by rw [List.append_nil]; exact HW.out) HTO.out)
 have kx1 : ((k.toNat : Int) == 1) = false := by rw [beq_eq_false_iff_ne]; intro h; exact hk1 (UInt8.toNat_inj.1 (show k.toNat = 1 by omega))
 have kx2 : ((k.toNat : Int) == 2) = false := by rw [beq_eq_false_iff_ne]; intro h; exact hk2 (UInt8.toNat_inj.1 (show k.toNat = 2 by omega))
 have kx3 : ((k.toNat : Int) == 3) = false := by rw [beq_eq_false_iff_ne]; intro h; exact hk3 (UInt8.toNat_inj.1 (show k.toNat = 3 by omega))
 have kx4 : ((k.toNat : Int) == 4) = false := by rw [beq_eq_false_iff_ne]; intro h; exact hk4 (UInt8.toNat_inj.1 (show k.toNat = 4 by omega))
 have kx5 : ((k.toNat : Int) == 5) = false := by rw [beq_eq_false_iff_ne]; intro h; exact hk5 (UInt8.toNat_inj.1 (show k.toNat = 5 by omega))
 go_wp2
 go_end0
 exact HR.out
section
variable {P : Program} {α : Type} {E : El α} {w : World} {S S2 : BS} {base : Nat} {t T : TypeId} {v y : Value} {xs ys : List α} {bytes : Nat}
theorem own_append2 {SR : BS} {ds : List Value} (hE : E.Ok) (ht : TyInfo P t T E.size bytes) (ty : TypeId) (hown : Own E w base T S v xs) (hsr : RowS w SR E.size y ys.length ds) (hds : Cells E w S2 ds ys)
  (hg : ∀ g, v.ownBlock = some g → ¬ S g ∧ ¬ S2 g)
  (h63 : xs.length + ys.length ≤ maxLen) (hbytes : (xs.length + ys.length) * bytes ≤ 140737488355328) (hbase : base ≤ w.heap.size) :
  ∃ v' w', (Builtin.append_ #[t, t] ty #[v, y]).run P w = .ok v' w' ∧ Own E w' base T (fun k => S k ∨ S2 k) v' (xs ++ ys) ∧ w.grownBy w' v.ownBlock ∧ (v'.ownBlock = v.ownBlock ∨ v'.ownBlock = some w.heap.size) := by
 obtain ⟨i, z, hi, hz, hsize, hby, hzs⟩ := ht.info
 obtain ⟨cs, hrow, hcs⟩ := hown.toRow hE
 obtain ⟨hl, A, c, rfl, _, _, hcell⟩ := hsr
 have hfin : ∀ v' w', w'.ownsRow base T E.size v' (xs.length + ys.length) (cs ++ ds) → w.grownBy w' v.ownBlock → Own E w' base T (fun k => S k ∨ S2 k) v' (xs ++ ys) := by
  intro v' w' h1 h2
  rw [← List.length_append] at h1
  refine Own.ofRow h1 ?_
  have hk : Keep (fun k => v.ownBlock = some k) w w' := (Keep.refl _ _).grown h2 (fun k e _ => e)
  refine Cells.append ?_ ?_
  ·exact (hcs.keep hE hk fun k hs e => (hg k e).1 hs).more hE fun _ _ h => .inl h
  ·cases hb : v.ownBlock with
   | none =>
    rw [hb] at hk
    exact (hds.keep hE hk fun k _ e => by cases e).more hE fun _ _ h => .inr h
   | some g =>
    rw [hb] at hk
    exact (hds.keep hE hk fun k hs e => (hg g hb).2 (by injection e with e; subst e; exact hs)).more hE fun _ _ h => .inr h
 rcases A with _ | ad
 ·have hm : ys = [] := by
   rcases Nat.eq_zero_or_pos ys.length with h0 | h0
   ·exact List.eq_nil_of_length_eq_zero h0
   ·obtain ⟨b, off, h, _⟩ := hcell h0
    cases h
  subst hm
  have hn : ds = [] := List.eq_nil_of_length_eq_zero (by simpa using hl)
  subst hn
  have hrun : (Builtin.append_ #[t, t] ty #[v, .slice none 0 c]).run P w = .ok v w := by
   rcases hrow.2 with ⟨rfl, h0⟩ | ⟨g, cap, cur, rfl, _, _, hnc, _⟩
   ·simp [Builtin.append_, run_underlying ht.under, sizeOf, typeInfo, hi, Builtin.lenOf, Builtin.firstCells]
   ·simp [Builtin.append_, run_underlying ht.under, sizeOf, typeInfo, hi, Builtin.lenOf, Builtin.firstCells, hnc, storeCells]
  exact ⟨v, w, hrun, hfin v w (by simpa using hrow) (World.grownBy.refl w _), World.grownBy.refl w _, .inl rfl⟩
 ·have hcells : ∀ j u, ds[j]? = some u → w.cell? (ad.add j) = some u := by
   intro j u hu
   rcases Nat.eq_zero_or_pos ys.length with h0 | h0
   ·have hn : ds = [] := List.eq_nil_of_length_eq_zero (by simp [hl, h0])
    subst hn
    simp at hu
   ·obtain ⟨b, off, e, _, _, hc⟩ := hcell h0
    injection e with e
    subst e
    have := hc j u hu
    unfold Addr.add
    split
    ·rename_i h0; subst h0; simpa using this
    ·exact this
  obtain ⟨v', w', hrun, h2, h3, _, h5⟩ := run_append_own_at (P := P) w base t ty T i z E.size bytes ht.under hi hz hsize hby hzs hE.pos v xs.length cs hrow ad ys.length c ds hl hcells (hds.one hE) h63 hbytes hbase
  exact ⟨v', w', hrun, hfin v' w' h2 h3, h3, h5⟩
theorem wpList_own_append2 (w : World) {SR : BS} {ds : List Value} {ops : Array Oper} {rest : List Oper} {o : Oper} {a : Act} {Q : Exit → Act → World → Prop} (hgd : o.guard = none) (s x : Operand)
  (hE : E.Ok) (ht : TyInfo P t T E.size bytes) (ho : o.op = .call { callee := .builtin .append, args := #[s, x], argTypes := #[t, t] })
  (hs : a.eval s = v) (hx : a.eval x = y) (hown : Own E w base T S v xs) (hsr : RowS w SR E.size y ys.length ds) (hds : Cells E w S2 ds ys) (hg : ∀ g, v.ownBlock = some g → ¬ S g ∧ ¬ S2 g)
  (hbytes : (xs.length + ys.length) * bytes ≤ 140737488355328) (h63 : xs.length + ys.length ≤ maxLen) (hbase : base ≤ w.heap.size)
  (h : ∀ v' w', Own E w' base T (fun k => S k ∨ S2 k) v' (xs ++ ys) → Keep (fun k => v.ownBlock = some k) w w' → (v'.ownBlock = v.ownBlock ∨ v'.ownBlock = some w.heap.size) → wpList P ops Q rest (a.put o.dst v') w') : wpList P ops Q (o :: rest) a w := by
 obtain ⟨v', w', hrun, h1, h2, h3⟩ := own_append2 (P := P) (w := w) hE ht o.type hown hsr hds hg h63 hbytes hbase
 refine wpList_plain hgd fun K hK => ?_
 unfold Oper.wp execOp
 simp only [ho, resolve, invoke, builtin, Sem.run_bind, Sem.run_pure, Result.andThen_ok, List.map_toArray, List.map_cons, List.map_nil, hs, hx, hrun]
 exact hK _ _ (h v' w' h1 ((Keep.refl _ _).grown h2 (fun k e _ => e)) h3)
end
abbrev DS (w : World) (lo : Nat) (v : Value) : BS := fun q => lo ≤ q ∧ q < w.heap.size ∧ v.ownBlock ≠ some q
theorem ds_next {α : Type} {E : El α} (hE : E.Ok) {wr w' : World} {base lo N : Nat} {T : TypeId} {S2 : BS} {v v' : Value} {xs : List α} (h : Own E w' base T (fun k => DS wr lo v k ∨ S2 k) v' xs)
  (h1 : wr.heap.size ≤ N) (h2 : N ≤ w'.heap.size) (hS2 : ∀ k, S2 k → wr.heap.size ≤ k ∧ k < N) (hlo : lo ≤ wr.heap.size) (hv : ∀ g, v.ownBlock = some g → g < wr.heap.size) (hb : v'.ownBlock = v.ownBlock ∨ v'.ownBlock = some N) : Own E w' base T (DS w' lo v') v' xs :=
 h.more hE fun k _ hk => by
  rcases hk with ⟨a, b, c⟩ | hk
  ·refine ⟨a, by omega, fun e => ?_⟩
   rcases hb with hb | hb
   ·exact c (hb.symm.trans e)
   ·rw [hb] at e; injection e with e; omega
  ·have := hS2 k hk
   refine ⟨by omega, by omega, fun e => ?_⟩
   rcases hb with hb | hb
   ·have := hv k (hb.symm.trans e); omega
   ·rw [hb] at e; injection e with e; omega
def RCopyIs (w : World) (v : V) (e : Ending) (w' : World) : Prop := ∃ lv ov, e = .returned (.agg #[U8 v.kind, .int .i64 v.n, .string v.s, lv, ov]) ∧ Own EVal w' w.heap.size TVAL (fun q => w.heap.size ≤ q ∧ q < w'.heap.size ∧ lv.ownBlock ≠ some q ∧ ov.ownBlock ≠ some q) lv v.l ∧
 Own EField w' w.heap.size TFIELD (fun q => w.heap.size ≤ q ∧ q < w'.heap.size ∧ lv.ownBlock ≠ some q ∧ ov.ownBlock ≠ some q) ov v.o ∧ (∀ g, lv.ownBlock = some g → ov.ownBlock ≠ some g) ∧ Ext w w'
theorem RCopyIs.at_ {w : World} {v : V} {e : Ending} {w' : World} (h : RCopyIs w v e w') : ∃ u', e = .returned u' ∧ VAt w' (fun k => w.heap.size ≤ k) u' v ∧ Ext w w' := by
 obtain ⟨lv, ov, h1, h2, h3, h5, h4⟩ := h
 exact ⟨_, h1, ⟨lv, ov, rfl, (h2.sl EVal.ok).more EVal.ok fun q _ h => h.elim (fun h => h.1) fun h => (h2.lt h).1, (h3.sl EField.ok).more EField.ok fun q _ h => h.elim (fun h => h.1) fun h => (h3.lt h).1⟩, h4⟩
theorem rfield_val (w : World) (S : BS) (u : Value) (v : V) (key : ByteArray) (h : VAt w S u v) :
  Calls Tryz.prog 87 #[u, .string key] w fun e w' => e = .returned (.tuple #[.int .i64 (fieldL v.o key : Int), .bool (fieldIs v.o key)]) ∧ Ext w w' := by
 obtain ⟨lv, ov, rfl, hl, ho⟩ := h
 obtain ⟨A, c, rfl, hlc, hcm⟩ := hl.shape
 obtain ⟨A', c', rfl, hlc', hcm'⟩ := ho.shape
 unfold maxLen at hcm'
 have HO := hid ho
 generalize hvo : v.o = vo at *
 generalize v.kind = kk at *
 generalize v.n = nn at *
 generalize v.s = ss at *
 generalize v.l.length = ll at *
 clear hl ho hvo hlc hcm
 have hb1 : Blk (w.alloc (.cells #[U8 kk, .int .i64 nn, .string ss, .slice A ll c, .slice A' vo.length c'] TVAL)) w.heap.size TVAL #[U8 kk, .int .i64 nn, .string ss, .slice A ll c, .slice A' vo.length c'] := Blk.new _ _ _
 have q4 : (w.alloc (.cells #[U8 kk, .int .i64 nn, .string ss, .slice A ll c, .slice A' vo.length c'] TVAL)).cell? ⟨w.heap.size, 4, none⟩ = some (.slice A' vo.length c') := hb1.cell 4
 have hE1 : Ext w (w.alloc (.cells #[U8 kk, .int .i64 nn, .string ss, .slice A ll c, .slice A' vo.length c'] TVAL)) := (Keep.refl _ _).alloc _
 go_enter Tryz.func87, Tryz.ntmps87
 go_wp2_with fail
 generalize w.alloc (.cells #[U8 kk, .int .i64 nn, .string ss, .slice A ll c, .slice A' vo.length c'] TVAL) = w1 at *
 clear hb1
 have HE1 := hid hE1
 have HO1 := hid (HO.out.ext EField.ok hE1)
 clear hE1 HO
 generalize hn : vo.length = n at *
 have HN := hid hn
 clear hn
 go_loop [6] (fun i => ∃ j : Nat, j ≤ n ∧ i = .int .i64 j ∧ (∀ i (hi : i < vo.length), i < j → keyLt vo[i].key key = true)) (fun i => n - (intOf i).toNat)
 case atStart => exact ⟨0, by omega, rfl, fun i _ h => by omega⟩
 case round =>
  obtain ⟨j, hj, rfl, hfl⟩ := hrel
  have HF := hid hfl
  clear hfl
  by_cases hlt : j < n
  ·have hjm : j < vo.length := by rw [HN.out]; exact hlt
   obtain ⟨b1, o1, c0, rfl, _, _, hrd, hcell⟩ := HO1.out.at_ EField.ok hjm
   generalize hm : vo[j]'hjm = m at *
   obtain ⟨lv, ov, rfl, ⟨A1, d1, rfl⟩, ⟨A2, d2, rfl⟩, _⟩ := EField_cells hrd
   have e0 := hcell 0 _ rfl
   have hz : EField.size = 6 := rfl
   simp only [hz, Nat.add_zero] at e0
   have HM := hid hm
   clear hz hcell hrd hm
   have hjX : (j : Int) < n := by omega
   cases hp : keyLt m.key key with
   | true =>
    have HP := hid hp
    go_wp2
    go_round
    case rel =>
     refine ⟨j + 1, by omega, by go_num, fun i hi hij => ?_⟩
     rcases Nat.lt_or_ge i j with h | h
     ·exact HF.out i hi h
     ·obtain rfl : i = j := by omega
      rw [HM.out]; exact HP.out
    case measure => simp [intOf]; omega
   | false =>
    have HP := hid hp
    go_wp2_with fail
    refine wp_region_grow (specOf []) (fun w' => Ext w1 w') stable_nil (stableC_ext _) (by kernel_rfl) (by kernel_rfl) (Keep.drew (Keep.refl _ _)) ?_
    iterate 18
     (try simp only [Act.put, sqa, sqb, sqc])
     refine grow_run rfl rfl rfl ?_
     apply Exists.intro
     refine ⟨fun w' hC hK => ?_, ?_⟩
     ·have q4 := sqw hC q4
      have e0 := sqw hC e0
      go_simp
      rfl
    refine grow_nil fun w5 hC _ => ?_
    have HE5 := hid (HE1.out.ext (show Ext w1 w5 from hC))
    have hf := fieldL_at (by omega) HF.out (fun hj' => by rw [HM.out]; exact HP.out)
    have HQ := hid (And.intro hf (fieldIs_some hjm hf))
    clear hC hp hf q4 e0
    go_wp2
    go_ret2
    exact ⟨by rw [HQ.out.2, HQ.out.1, HM.out]; rfl, HE5.out⟩
  ·have HJ := hid (show j = n by omega)
   go_wp2_with fail
   refine wp_region_grow (specOf []) (fun w' => Ext w1 w') stable_nil (stableC_ext _) (by kernel_rfl) (by kernel_rfl) (Keep.drew (Keep.refl _ _)) ?_
   iterate 7
    (try simp only [Act.put, sqa, sqb, sqc])
    refine grow_run rfl rfl rfl ?_
    apply Exists.intro
    refine ⟨fun w' hC hK => ?_, ?_⟩
    ·have q4 := sqw hC q4
     go_simp
     rfl
   iterate 8
    (try simp only [Act.put, sqa, sqb, sqc])
    with_reducible refine grow_skip ?_ ?_ ?_
    ·rfl
    ·rfl
   iterate 3
    (try simp only [Act.put, sqa, sqb, sqc])
    refine grow_run rfl rfl rfl ?_
    apply Exists.intro
    refine ⟨fun w' hC hK => ?_, ?_⟩
    ·go_simp
     rfl
   refine grow_nil fun w5 hC _ => ?_
   have HE5 := hid (HE1.out.ext (show Ext w1 w5 from hC))
   have hf := fieldL_at (key := key) (by have := HJ.out; have := HN.out; omega) HF.out (fun hj' => by have := HJ.out; have := HN.out; omega)
   have HQ := hid (And.intro hf (fieldIs_none (hf.trans (HJ.out.trans HN.out.symm))))
   clear hC hf q4
   go_wp2
   go_ret2
   exact ⟨by rw [HQ.out.2, HQ.out.1]; rfl, HE5.out⟩
section
variable {P : Program} {α : Type} {E : El α} {w : World} {S : BS} {t T : TypeId} {A : Option Addr} {n c : Nat} {xs : List α} {bytes : Nat}
theorem elem_of (h : P.underlying t = some (.slice T)) : P.elem t = T := by unfold Program.elem; rw [h]
theorem size_of (ht : TyInfo P t T E.size bytes) (w : World) : (sizeOf T).run P w = .ok E.size w := by
 obtain ⟨i, z, hi, hz, hsize, hby, hzs⟩ := ht.info
 simp [sizeOf, typeInfo, hi, hsize]
theorem run_cut (ht : TyInfo P t T E.size bytes) (lo hi : Nat) {a b : Int} (ha : a = lo) (hb : b = hi) (h1 : lo ≤ hi) (h2 : hi ≤ c) (w : World) :
  (Instr.sliceAt t (.slice A n c) (some (.int .i64 a)) (some (.int .i64 b)) none).run P w = .ok (.slice (if c = lo then A else A.map (·.add (lo * E.size))) (hi - lo) (c - lo)) w := by
 subst ha hb
 have hu : P.underlying t = some (.slice (P.elem t)) := by rw [elem_of ht.under]; exact ht.under
 rw [run_sliceAt_slice (h := hu), run_slice_lh (ht := hu), elem_of ht.under, size_of ht]
 ·simp [Result.andThen, sliced]
 all_goals omega
theorem run_tail (ht : TyInfo P t T E.size bytes) (lo : Nat) {a : Int} (ha : a = lo) (h1 : lo ≤ n) (w : World) :
  (Instr.sliceAt t (.slice A n c) (some (.int .i64 a)) none none).run P w = .ok (.slice (if c = lo then A else A.map (·.add (lo * E.size))) (n - lo) (c - lo)) w := by
 subst ha
 have hu : P.underlying t = some (.slice (P.elem t)) := by rw [elem_of ht.under]; exact ht.under
 rw [run_sliceAt_slice (h := hu), run_slice_l (ht := hu), elem_of ht.under, size_of ht]
 ·simp [Result.andThen, sliced]
 all_goals omega
theorem run_front (ht : TyInfo P t T E.size bytes) (hi : Nat) {b : Int} (hb : b = hi) (h2 : hi ≤ c) (w : World) :
  (Instr.sliceAt t (.slice A n c) none (some (.int .i64 b)) none).run P w = .ok (.slice A hi c) w := by
 subst hb
 have hu : P.underlying t = some (.slice (P.elem t)) := by rw [elem_of ht.under]; exact ht.under
 rw [run_sliceAt_slice (h := hu), run_slice_h (ht := hu), elem_of ht.under, size_of ht]
 ·have e : (fun x : Addr => x.add 0) = id := by funext x; simp [Addr.add]
  simp [Result.andThen, sliced, e]
 all_goals omega
theorem cut_fact (hE : E.Ok) (ht : TyInfo P t T E.size bytes) (h : Sl E w S (.slice A n c) xs) {lo hi : Nat} {a b : Int} (ha : a = lo) (hb : b = hi) (h1 : lo ≤ hi) (h2 : hi ≤ xs.length) :
  ∃ A', (∀ w', (Instr.sliceAt t (.slice A n c) (some (.int .i64 a)) (some (.int .i64 b)) none).run P w' = .ok (.slice A' (hi - lo) (c - lo)) w') ∧ Sl E w S (.slice A' (hi - lo) (c - lo)) ((xs.take hi).drop lo) := by
 obtain ⟨A', c', e, hl, _⟩ := h.shape
 injection e with _ _ e3
 subst e3
 exact ⟨_, fun w' => run_cut ht lo hi ha hb h1 (by omega) w', h.cut hE h1 h2⟩
theorem tail_fact (hE : E.Ok) (ht : TyInfo P t T E.size bytes) (h : Sl E w S (.slice A n c) xs) {lo : Nat} {a : Int} (ha : a = lo) (h1 : lo ≤ xs.length) :
  ∃ A', (∀ w', (Instr.sliceAt t (.slice A n c) (some (.int .i64 a)) none none).run P w' = .ok (.slice A' (n - lo) (c - lo)) w') ∧ Sl E w S (.slice A' (n - lo) (c - lo)) (xs.drop lo) := by
 obtain ⟨A', c', e, hl, _⟩ := h.shape
 injection e with _ e2 e3
 subst e2 e3
 have := h.cut hE h1 (Nat.le_refl _)
 rw [List.take_length] at this
 exact ⟨_, fun w' => run_tail ht lo ha h1 w', this⟩
theorem front_fact (hE : E.Ok) (ht : TyInfo P t T E.size bytes) (h : Sl E w S (.slice A n c) xs) {hi : Nat} {b : Int} (hb : b = hi) (h1 : hi ≤ xs.length) :
  (∀ w', (Instr.sliceAt t (.slice A n c) none (some (.int .i64 b)) none).run P w' = .ok (.slice A hi c) w') ∧ Sl E w S (.slice A hi c) (xs.take hi) := by
 obtain ⟨A', c', e, hl, _⟩ := h.shape
 injection e with _ e2 e3
 subst e2 e3
 exact ⟨fun w' => run_front ht hi hb (by omega) w', h.front hE h1⟩
end
def withL (o : List F) (key : ByteArray) (x : V) : List F := o.take (fieldL o key) ++ F.mk key x :: o.drop (if fieldIs o key = true then fieldL o key + 1 else fieldL o key)
theorem own_orF {w : World} {base : Nat} {S : BS} {v : Value} {xs : List F} (h : Own EField w base TFIELD (fun k => S k ∨ S k) v xs) : Own EField w base TFIELD S v xs := h.more EField.ok fun _ _ h => h.elim id id
theorem blk_cells6 {w : World} {b : Nat} {T : TypeId} {a0 a1 a2 a3 a4 : Value} (h : Blk w b T #[a0, a1, a2, a3, a4]) : w.cell? ⟨b, 0, none⟩ = some a0 ∧ w.cell? ⟨b, 1, none⟩ = some a1 ∧ w.cell? ⟨b, 2, none⟩ = some a2 ∧ w.cell? ⟨b, 3, none⟩ = some a3 ∧ w.cell? ⟨b, 4, none⟩ = some a4 :=
 ⟨h.cell 0, h.cell 1, h.cell 2, h.cell 3, h.cell 4⟩
theorem lawwith_ok (xs : List F) (key : ByteArray) (x : V) (S : BS) (A : Option Addr) (c : Nat) (u : Value) (w : World) (hl : Sl EField w S (.slice A xs.length c) xs) (hx : VAt w S u x) (hn : xs.length ≤ 100000) :
  Calls Tryz.prog 66 #[.slice A xs.length c, .string key, u] w fun e w' => ∃ v, e = .returned v ∧ Own EField w' w.heap.size TFIELD (fun k => S k ∧ k < w.heap.size) v (withL xs key x) ∧ Ext w w' := by
 have hl := hl.more EField.ok (S' := fun k => S k ∧ k < w.heap.size) fun k h1 h2 => ⟨h2, h1⟩
 have hx := hx.more (S' := fun k => S k ∧ k < w.heap.size) fun k h1 h2 => ⟨h2, h1⟩
 obtain ⟨lv, ov, rfl, hxl, hxo⟩ := hx
 obtain ⟨B1, b1, rfl, _⟩ := hxl.shape
 obtain ⟨B2, b2, rfl, _⟩ := hxo.shape
 have hx : EVal.rd w (fun k => S k ∧ k < w.heap.size) [U8 x.kind, .int .i64 x.n, .string x.s, .slice B1 x.l.length b1, .slice B2 x.o.length b2] x := VAt.rd ⟨_, _, rfl, hxl, hxo⟩
 have hkl := fieldL_le xs key
 obtain ⟨ki, hki⟩ : ∃ ki, ki = if fieldIs xs key = true then fieldL xs key + 1 else fieldL xs key := ⟨_, rfl⟩
 have hkin : ki ≤ xs.length := by
  rw [hki]
  by_cases h : fieldIs xs key = true
  ·rw [if_pos h]; have := fieldIs_lt h; omega
  ·rw [if_neg h]; omega
 have hW : withL xs key x = xs.take (fieldL xs key) ++ F.mk key x :: xs.drop ki := by unfold withL; rw [hki]
 have hfv : ∀ w1, Ext w w1 → Calls Tryz.prog 87 #[.agg #[.int .u8 0, .int .i64 0, .string ⟨#[]⟩, .slice none 0 0, .slice A xs.length c], .string key] w1 fun e w' => e = .returned (.tuple #[.int .i64 (fieldL xs key : Int), .bool (fieldIs xs key)]) ∧ Ext w1 w' :=
  fun w1 h => rfield_val w1 (fun k => S k ∧ k < w.heap.size) (.agg #[.int .u8 0, .int .i64 0, .string ⟨#[]⟩, .slice none 0 0, .slice A xs.length c]) (.mk 0 0 ⟨#[]⟩ [] xs) key ⟨_, _, rfl, Sl.nil _ _, hl.ext EField.ok h⟩
 have HFV := hid hfv
 have HKI := hid hki
 have HW := hid hW
 clear hki hW hfv
 generalize fieldIs xs key = isk at *
 generalize fieldL xs key = k at *
 obtain ⟨r1, f1⟩ := front_fact (P := Tryz.prog) EField.ok ty_field hl (b := (k : Int)) rfl hkl
 obtain ⟨A2, r2, f2⟩ := tail_fact (P := Tryz.prog) EField.ok ty_field hl (a := (ki : Int)) (lo := ki) rfl hkin
 have hE0 : Ext w (w.alloc (.cells #[U8 x.kind, .int .i64 x.n, .string x.s, .slice B1 x.l.length b1, .slice B2 x.o.length b2] TVAL)) := (Keep.refl _ _).alloc _
 have hb0 : Blk (w.alloc (.cells #[U8 x.kind, .int .i64 x.n, .string x.s, .slice B1 x.l.length b1, .slice B2 x.o.length b2] TVAL)) w.heap.size TVAL #[U8 x.kind, .int .i64 x.n, .string x.s, .slice B1 x.l.length b1, .slice B2 x.o.length b2] := Blk.new _ _ _
 have HR2x := hid (fun (a : Int) (ha : a = (ki : Int)) (w' : World) => (by rw [ha]; exact r2 w' : (Instr.sliceAt 31 (.slice A xs.length c) (some (.int .i64 a)) none none).run Tryz.prog w' = .ok (.slice A2 (xs.length - ki) (c - ki)) w'))
 clear r2
 have HX := hid hx
 have HF1 := hid f1
 have HF2 := hid f2
 have HE0 := hid hE0
 have HB0 := hid hb0
 have HN := hid hn
 have ht1 : (xs.take k).length = k := by rw [List.length_take]; omega
 have ht2 : (xs.drop ki).length = xs.length - ki := by rw [List.length_drop]
 have hk9 : k ≤ 100000 := by omega
 have hki9 : ki ≤ 100000 := by omega
 generalize xs.take k = ta at *
 generalize xs.drop ki = tb at *
 have HT1 := hid ht1
 have HT2 := hid ht2
 have HKN := hid (And.intro hkl hkin)
 have q0 := (blk_cells6 hb0).1
 have q1 := (blk_cells6 hb0).2.1
 have q2 := (blk_cells6 hb0).2.2.1
 have q3 := (blk_cells6 hb0).2.2.2.1
 have q4 := (blk_cells6 hb0).2.2.2.2
 clear hl hx f1 f2 hn ht1 ht2 hE0 hb0 hxl hxo
 go_enter Tryz.func66, Tryz.ntmps66
 go_wp2_with fail
 generalize w.alloc (.cells #[U8 x.kind, .int .i64 x.n, .string x.s, .slice B1 x.l.length b1, .slice B2 x.o.length b2] TVAL) = w0 at *
 refine (HFV.out w0 HE0.out).mono ?_
 rintro e w1 ⟨rfl, hE1⟩
 clear q0 q1 q2 q3 q4 HFV
 have HK1 := hid (HE0.out.ext hE1)
 have HB1 := hid (HB0.out.keep hE1 id)
 have hw1 : w.heap.size ≤ w1.heap.size := HK1.out.size
 obtain ⟨d1, hr1, hd1⟩ := HF1.out.ext EField.ok HK1.out
 obtain ⟨d2, hr2, hd2⟩ := HF2.out.ext EField.ok HK1.out
 have HR1 := hid hr1
 have HD1 := hid hd1
 have HR2 := hid hr2
 have HD2 := hid hd2
 have HX1 := hid (EVal.ok.keep HX.out HK1.out fun _ _ h => h)
 clear hr1 hd1 hr2 hd2 hE1
 go_wp2_with (at_builtin; refine wpList_own_append2 (S := fun k => S k ∧ k < w.heap.size) (ys := ta) _ rfl (.tmp 17) (.tmp 20) EField.ok ty_field rfl rfl rfl (Own.nil _ w.heap.size _ _) HR1.out HD1.out ?c1 ?c2 ?c3 ?c4 ?_)
 case c1 =>
  intro g hg
  have hg : (Value.slice none 0 0).ownBlock = some g := hg
  cases hg
 case c2 => rw [HT1.out]; simp; omega
 case c3 => rw [HT1.out]; simp [maxLen]; omega
 case c4 => exact hw1
 intro v1 w2 hown hk _
 obtain ⟨A3, c3, rfl, hl3, hc3⟩ := hown.shape
 have hk1 : Ext w1 w2 := hk.mono fun k _ e => by
  have e : (Value.slice none 0 0).ownBlock = some k := e
  cases e
 have HO1 : Hid (Own EField w2 w.heap.size TFIELD (fun k => S k ∧ k < w.heap.size) (.slice A3 ta.length c3) ta) := hid (by first | exact hown | exact own_orF hown)
 have HK2 := hid (HK1.out.ext hk1)
 have HRb := hid (HR2.out.keep hk1 fun _ _ => id)
 have HDb := hid (HD2.out.keep EField.ok hk1 fun _ _ => id)
 have HXb := hid (EVal.ok.keep HX1.out hk1 fun _ _ h => h)
 have hb2 := HB1.out.keep hk1 id
 have q0 := (blk_cells6 hb2).1
 have q1 := (blk_cells6 hb2).2.1
 have q2 := (blk_cells6 hb2).2.2.1
 have q3 := (blk_cells6 hb2).2.2.2.1
 have q4 := (blk_cells6 hb2).2.2.2.2
 have hw2 : w.heap.size ≤ w2.heap.size := HK2.out.size
 have HS1 := hid (show w.heap.size < w2.heap.size from hb2.lt)
 clear hown hk hk1 hb2 HR1 HD1 HR2 HD2 HX1 HB1 HX
 have HOb := hid (HO1.out.ext EField.ok ((Keep.refl (fun _ => False) w2).alloc (.cells #[.string key, U8 x.kind, .int .i64 x.n, .string x.s, .slice B1 x.l.length b1, .slice B2 x.o.length b2] TFIELD)))
 have HRx := hid (RowS.new (w := w2) (t := TFIELD) (sz := 6) (n := 1) (cs := [.string key, U8 x.kind, .int .i64 x.n, .string x.s, .slice B1 x.l.length b1, .slice B2 x.o.length b2]) rfl (by simp [maxLen]) (0, 0))
 have HDx := hid (Cells.single (E := EField) (x := F.mk key x) (rdF_iff.2 ⟨_, rfl, EVal.ok.keep HXb.out ((Keep.refl (fun _ => False) w2).alloc (.cells #[.string key, U8 x.kind, .int .i64 x.n, .string x.s, .slice B1 x.l.length b1, .slice B2 x.o.length b2] TFIELD)) fun _ _ h => h⟩))
 go_wp2_with (at_builtin; refine wpList_own_append2 (ys := [F.mk key x]) _ rfl (.tmp 22) (.tmp 26) EField.ok ty_field rfl rfl rfl HOb.out HRx.out HDx.out ?d1 ?d2 ?d3 ?d4 ?_)
 case d1 => intro g hg; have := HO1.out.lt hg; exact ⟨fun h => by omega, fun h => by omega⟩
 case d2 => have := HT1.out; simp only [List.length_singleton]; omega
 case d3 => have := HT1.out; simp only [List.length_singleton, maxLen]; omega
 case d4 => rw [World.size_alloc]; omega
 intro v2 w3 hown hk _
 obtain ⟨A4, c4, rfl, hl4, hc4⟩ := hown.shape
 have hk2 : Keep (fun k => (Value.slice A3 ta.length c3).ownBlock = some k) w2 w3 := (Keep.alloc (Keep.refl (fun k => (Value.slice A3 ta.length c3).ownBlock = some k) w2) _).trans hk fun k _ e => e
 have HO2 : Hid (Own EField w3 w.heap.size TFIELD (fun k => S k ∧ k < w.heap.size) (.slice A4 (ta ++ [F.mk key x]).length c4) (ta ++ [F.mk key x])) := hid (by first | exact hown | exact own_orF hown)
 have hz2 := hk2.size
 have HK3 := hid (show Ext w w3 from HK2.out.trans hk2 fun k hk e => by have := (HO1.out.lt e).1; omega)
 have HRc := hid (HRb.out.keep hk2 fun k hs e => by have := (HO1.out.lt e).1; have := hs.2; omega)
 have HDc := hid (HDb.out.keep EField.ok hk2 fun k hs e => by have := (HO1.out.lt e).1; have := hs.2; omega)
 clear hown hk hk2 HOb HRx HDx HXb HRb HDb HO1 q0 q1 q2 q3 q4
 have fin : ∀ (v3 : Value) (w4 : World), Own EField w4 w.heap.size TFIELD (fun k => S k ∧ k < w.heap.size) v3 (ta ++ F.mk key x :: tb) → Keep (fun k => (Value.slice A4 (ta.length + 1) c4).ownBlock = some k) w3 w4 → Own EField w4 w.heap.size TFIELD (fun k => S k ∧ k < w.heap.size) v3 (withL xs key x) ∧ Ext w w4 := by
  intro v3 w4 h1 h2
  refine ⟨?_, HK3.out.trans h2 fun k hk e => by
   have e' : (Value.slice A4 (ta ++ [F.mk key x]).length c4).ownBlock = some k := by rw [List.length_append]; exact e
   have := (HO2.out.lt e').1; omega⟩
  rw [HW.out]
  exact h1
 have HFIN := hid fin
 clear fin
 have side1 : ∀ g, (Value.slice A4 (ta ++ [F.mk key x]).length c4).ownBlock = some g → ¬ (S g ∧ g < w.heap.size) ∧ ¬ (S g ∧ g < w.heap.size) := fun g hg => by have := HO2.out.lt hg; exact ⟨fun h => by omega, fun h => by omega⟩
 have HSI := hid side1
 clear side1
 have side2 : (ta ++ [F.mk key x]).length + tb.length ≤ 200002 := by have := HT1.out; have := HT2.out; have := HN.out; have := HKN.out; rw [List.length_append, List.length_singleton]; omega
 have HSJ := hid side2
 clear side2
 have hki := HKI.out
 clear HKI HN HKN
 cases isk with
 | true =>
  simp only [if_true] at hki
  have r2 := HR2x.out ((k : Int) + 1) (by omega)
  clear HR2x hki
  go_wp2_with (at_builtin; refine wpList_own_append2 (ys := tb) _ rfl (.tmp 31) (.tmp 34) EField.ok ty_field rfl rfl rfl HO2.out HRc.out HDc.out ?e1 ?e2 ?e3 ?e4 ?_)
  case e1 => exact HSI.out
  case e2 => have := HSJ.out; omega
  case e3 => have := HSJ.out; simp only [maxLen]; omega
  case e4 => omega
  intro v3 w4 hown hk _
  obtain ⟨A5, c5, rfl, hl5, hc5⟩ := hown.shape
  have HR := hid (HFIN.out _ _ hown hk)
  clear hown hk
  go_wp2
  go_ret
  exact ⟨_, rfl, HR.out.1, HR.out.2⟩
 | false =>
  simp only [Bool.false_eq_true, if_false] at hki
  have r2 := HR2x.out (k : Int) (by omega)
  clear HR2x hki
  go_wp2_with (at_builtin; refine wpList_own_append2 (ys := tb) _ rfl (.tmp 31) (.tmp 34) EField.ok ty_field rfl rfl rfl HO2.out HRc.out HDc.out ?e1 ?e2 ?e3 ?e4 ?_)
  case e1 => exact HSI.out
  case e2 => have := HSJ.out; omega
  case e3 => have := HSJ.out; simp only [maxLen]; omega
  case e4 => omega
  intro v3 w4 hown hk _
  obtain ⟨A5, c5, rfl, hl5, hc5⟩ := hown.shape
  have HR := hid (HFIN.out _ _ hown hk)
  clear hown hk
  go_wp2
  go_ret
  exact ⟨_, rfl, HR.out.1, HR.out.2⟩
end Go.Proofs.YtihaliffcobacaaGreatDoor
